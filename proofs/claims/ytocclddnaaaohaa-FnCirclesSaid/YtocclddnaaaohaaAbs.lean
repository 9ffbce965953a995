/- The walk of math.Abs. No condition. -/
import Derived.Test.YtocclddnaaaohaaExt
namespace Go.Proofs.Ytocclddnaaaohaa
open Go.RowKit Go.Proofs.Ytocclddnaaaohaa.Fl

theorem abs_any (x : Nat) (hx : x < 2 ^ 64) (w : World) :
    Calls Try.prog 16 #[.float .f64 x] w fun e w' => e = .returned (.float .f64 (x % 2 ^ 63)) ∧ w = w' := by
  have H := hid (abs_bits x hx)
  clear hx
  go_enter Try.func16, Try.ntmps16
  go_wp2
  go_ret
  exact ⟨by rw [← H.out]; rfl, rfl⟩
end Go.Proofs.Ytocclddnaaaohaa
