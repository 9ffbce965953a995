/- The walks of BitsOf, of the program and of the reference. No condition. -/
import Derived.Test.YtocclddnaaaohaaExt
import Derived.Test.YtocclddnaaaohaaChecked
import Derived.KernelRfl
namespace Go.Proofs.Ytocclddnaaaohaa
open Go.RowKit Go.Proofs.Ytocclddnaaaohaa.Fl

/-- The bits of a number; one number for all NaNs. -/
def bitsV (x : Nat) : Int := if nanB .f32 x then 2143289344 else x
theorem bitsV_nan {x : Nat} (h : nanB .f32 x = true) : bitsV x = 2143289344 := by simp [bitsV, h]
theorem bitsV_num {x : Nat} (h : nanB .f32 x = false) : bitsV x = x := by simp [bitsV, h]
theorem bitsV_nz (x : Nat) : bitsV x = nz .f32 x := by
  unfold bitsV nz; cases nanB .f32 x <;> rfl

theorem specBits_any (x : Nat) (hx : x < 2 ^ 32) (w : World) :
    Calls Try.prog 33 #[.float .f32 x] w fun e w' => e = .returned (.int .i64 (bitsV x)) ∧ w = w' := by
  have t1 := ne_self .f32 x
  cases hn : nanB .f32 x
  · rw [hn] at t1
    have H := hid (bitsV_num hn)
    clear hn
    go_enter Try.func33, Try.ntmps33
    go_wp2
    go_ret
    exact ⟨by rw [H.out]; rfl, rfl⟩
  · rw [hn] at t1
    have H := hid (bitsV_nan hn)
    clear hn
    go_enter Try.func33, Try.ntmps33
    go_wp2
    go_ret
    exact ⟨by rw [H.out]; rfl, rfl⟩

end Go.Proofs.Ytocclddnaaaohaa
