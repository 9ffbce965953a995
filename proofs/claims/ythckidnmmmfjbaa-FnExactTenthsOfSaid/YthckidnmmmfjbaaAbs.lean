/- The walk of math.Abs. No condition. -/
import Derived.Test.YthckidnmmmfjbaaExt
namespace Go.Proofs.Ythckidnmmmfjbaa
open Go.RowKit Go.Proofs.Ythckidnmmmfjbaa.Fl

theorem abs_any (x : Nat) (hx : x < 2 ^ 64) (w : World) :
    Calls Try.prog 47 #[.float .f64 x] w fun e w' => e = .returned (.float .f64 (x % 2 ^ 63)) ∧ w = w' := by
  have H := hid (abs_bits x hx)
  clear hx
  go_enter Try.func47, Try.ntmps47
  go_wp2
  go_ret
  exact ⟨by rw [← H.out]; rfl, rfl⟩
end Go.Proofs.Ythckidnmmmfjbaa
