/- The walks of IsSubnormal, of the program and of the reference. No condition. -/
import Derived.Test.YthckidnmmmfjbaaAbs
import Derived.Test.YthckidnmmmfjbaaBits
namespace Go.Proofs.Ythckidnmmmfjbaa
open Go.RowKit Go.Proofs.Ythckidnmmmfjbaa.Fl

theorem sub64 (x : Nat) : x % 2 ^ 63 < 2 ^ 64 := by omega

/-- Is it subnormal? -/
def subV (x : Nat) : Bool := (FloatKind.f32.format.order x 0 != some .eq) && subE x

theorem implSub_any (x : Nat) (hx : x < 2 ^ 32) (w : World) :
    Calls Try.prog 40 #[.float .f32 x] w fun e w' => e = .returned (.bool (subV x)) ∧ ∃ n, w' = w.drewN n := by
  have HX := hid hx
  clear hx
  cases hz : (FloatKind.f32.format.order x 0 != some .eq)
  · have H : Hid (subV x = false) := by unfold Hid subV; rw [hz]; rfl
    go_enter Try.func40, Try.ntmps40
    go_wp2
    go_ret
    exact ⟨by rw [H.out]; rfl, 0, rfl⟩
  · have H : Hid (subV x = subE x) := by unfold Hid subV; rw [hz]; rfl
    go_enter Try.func40, Try.ntmps40
    go_wp2_with (first | (refine wpList_fcv _ rfl _ _ _ rfl _ _ _ rfl (by decide) rfl Try.underlying26 (narrows_up _) HX.out ?_; intro v n hv hb) | (go_at_call 47; refine (abs_any _ hb.out _).mono ?_; rintro e w1 ⟨rfl, rfl⟩))
    go_ret
    refine ⟨?_, n, rfl⟩
    rw [H.out, ← abs_small hv.out]; rfl
end Go.Proofs.Ythckidnmmmfjbaa
