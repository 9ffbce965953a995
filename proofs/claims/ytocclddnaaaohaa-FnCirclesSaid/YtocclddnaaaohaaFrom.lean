/- The walks of FromBits and FlushNumber, of the program and of the reference. No condition. -/
import Derived.Test.YtocclddnaaaohaaSub
import Derived.Test.YtocclddnaaaohaaFin
namespace Go.Proofs.Ytocclddnaaaohaa
open Go.RowKit Go.Proofs.Ytocclddnaaaohaa.Fl

theorem bits_exp (x : Nat) (hx : x < 2 ^ 32) : (bits .and .i64 (bitsV x) 2139095040 == 0) = subE x := by
  cases hn : nanB .f32 x
  · rw [bitsV_num hn, and_exp x hx]
  · rw [bitsV_nan hn, subE_nan hn]; decide +kernel
theorem signBit_lt (x : Nat) : signBit x < 2 ^ 32 := by unfold signBit; split <;> omega

/-- What FlushNumber gives. -/
def flushV (x : Nat) : Nat := if subE x then signBit x else nz .f32 x
theorem flushV_sub {x : Nat} (h : subE x = true) : flushV x = signBit x := by simp [flushV, h]
theorem flushV_not {x : Nat} (h : subE x = false) : flushV x = nz .f32 x := by simp [flushV, h]
theorem nan_not_sub {x : Nat} (h : subE x = true) : nanB .f32 x = false := by
  cases hn : nanB .f32 x
  · rfl
  · rw [subE_nan hn] at h; cases h
theorem nz_signBit (x : Nat) : nz .f32 (signBit x) = signBit x := by
  unfold signBit; split <;> decide +kernel

/-- A zero with the sign of v. -/
def zsgn (v : Nat) : Nat := if v < 2 ^ 63 then 0 else 2 ^ 63
theorem copysign_any (v : Nat) (hv : v < 2 ^ 64) (w : World) :
    Calls Try.prog 41 #[.float .f64 0, .float .f64 v] w fun e w' => e = .returned (.float .f64 (zsgn v)) ∧ w = w' := by
  have S : Hid (_ = zsgn v) := sign_u64 v hv
  clear hv
  go_enter Try.func41, Try.ntmps41
  go_wp2
  go_ret
  exact ⟨by rw [← S.out]; rfl, rfl⟩

theorem zero_lt (v : Nat) : zsgn v < 2 ^ 64 := by unfold zsgn; split <;> omega

end Go.Proofs.Ytocclddnaaaohaa
