/- The walks of IsFinite, of the reference's IsFinite, and of sameFloat on words that are the same but for a NaN's bits. No condition. -/
import Derived.Test.YtocclddnaaaohaaFl
import Derived.Test.YtocclddnaaaohaaChecked
import Derived.KernelRfl
namespace Go.Proofs.Ytocclddnaaaohaa
open Go.RowKit Go.Proofs.Ytocclddnaaaohaa.Fl

theorem isFinite_any (x : Nat) (w : World) :
    Calls Try.prog 14 #[.float .f64 x] w fun e w' => e = .returned (.bool (finB .f64 x)) ∧ ∃ n, w' = w.drewN n := by
  go_enter Try.func14, Try.ntmps14
  go_wp2_with (refine wpList_fop _ rfl _ _ _ _ _ rfl rfl _ _ _ rfl rfl ?_; intro v n hv hb)
  go_ret
  exact ⟨by rw [← fin_test hv.out]; rfl, n, rfl⟩

set_option maxRecDepth 100000 in
theorem implIsFinite_any (x : Nat) (hx : x < 2 ^ 32) (w : World) :
    Calls Try.prog 22 #[.float .f32 x] w fun e w' => e = .returned (.bool (finB .f32 x)) ∧ ∃ n, w' = w.drewN n := by
  have HX := hid hx
  clear hx
  go_enter Try.func22, Try.ntmps22
  go_wp2_with (first | (refine wpList_fcv _ rfl _ _ _ rfl _ _ _ rfl (by decide) rfl Try.underlying27 (narrows_up _) HX.out ?_; intro v n hv hb) | (go_at_call 14; refine (isFinite_any _ _).mono ?_; rintro e w1 ⟨rfl, n2, rfl⟩))
  go_ret
  refine ⟨?_, n + n2, by simp⟩
  rw [← fin_nz .f64 v, hv.out, fin_widen]; rfl

end Go.Proofs.Ytocclddnaaaohaa
