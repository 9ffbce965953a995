/- The walks of IsFinite, of the reference's IsFinite, and of sameFloat on words that are the same but for a NaN's bits. No condition. -/
import Derived.Test.YtmomgaiondjinaaFl
import Derived.Test.YtmomgaiondjinaaChecked
import Derived.KernelRfl
namespace Go.Proofs.Ytmomgaiondjinaa
open Go.RowKit Go.Proofs.Ytmomgaiondjinaa.Fl

theorem isFinite_any (x : Nat) (w : World) :
    Calls Try.prog 114 #[.float .f64 x] w fun e w' => e = .returned (.bool (finB .f64 x)) ∧ ∃ n, w' = w.drewN n := by
  go_enter Try.func114, Try.ntmps114
  go_wp2_with (refine wpList_fop _ rfl _ _ _ _ _ rfl rfl _ _ _ rfl rfl ?_; intro v n hv hb)
  go_ret
  exact ⟨by rw [← fin_test hv.out]; rfl, n, rfl⟩

theorem specFinite_any (x : Nat) (w : World) :
    Calls Try.prog 66 #[.float .f32 x] w fun e w' => e = .returned (.bool (finB .f32 x)) ∧ ∃ n, w' = w.drewN n := by
  go_enter Try.func66, Try.ntmps66
  go_wp2_with (refine wpList_fop _ rfl _ _ _ _ _ rfl rfl _ _ _ rfl rfl ?_; intro v n hv hb)
  go_ret
  exact ⟨by rw [← fin_test hv.out]; rfl, n, rfl⟩

set_option maxRecDepth 100000 in
theorem implIsFinite_any (x : Nat) (hx : x < 2 ^ 32) (w : World) :
    Calls Try.prog 70 #[.float .f32 x] w fun e w' => e = .returned (.bool (finB .f32 x)) ∧ ∃ n, w' = w.drewN n := by
  have HX := hid hx
  clear hx
  go_enter Try.func70, Try.ntmps70
  go_wp2_with (first | (refine wpList_fcv _ rfl _ _ _ rfl _ _ _ rfl (by decide) rfl Try.underlying28 (narrows_up _) HX.out ?_; intro v n hv hb) | (go_at_call 114; refine (isFinite_any _ _).mono ?_; rintro e w1 ⟨rfl, n2, rfl⟩))
  go_ret
  refine ⟨?_, n + n2, by simp⟩
  rw [← fin_nz .f64 v, hv.out, fin_widen]; rfl

/-- What is the same but for a NaN's bits: true. -/
theorem sameFloat_any (a b : Nat) (hab : nz .f64 a = nz .f64 b) (w : World) :
    Calls Try.prog 22 #[.float .f64 a, .float .f64 b] w fun e w' => e = .returned (.bool true) ∧ ∃ n, w' = w.drewN n := by
  cases hn : nanB .f64 a
  · have hb : nanB .f64 b = false := by rw [← nan_nz, ← hab, nan_nz]; exact hn
    have e : a = b := by rw [← nz_num hn, ← nz_num hb]; exact hab
    clear hab
    subst e
    have t1 := ne_self .f64 a
    rw [hn] at t1
    have t2 := eq_self .f64 a
    rw [hn] at t2
    clear hn hb
    cases t3 : (FloatKind.f64.format.order a 0 == some .eq)
    · go_enter Try.func22, Try.ntmps22
      go_wp2
      go_ret
      exact ⟨rfl, 0, rfl⟩
    · go_enter Try.func22, Try.ntmps22
      go_wp2_with (refine wpList_fop _ rfl _ _ _ _ _ rfl rfl _ _ _ rfl rfl ?_; intro v n hv hb)
      go_ret
      rename_i v1 n1 h1 b1
      have e : FloatKind.f64.format.order v1 0 = FloatKind.f64.format.order v 0 := by rw [← order_nz_left, h1.out, ← hv.out, order_nz_left]
      refine ⟨?_, _, rfl⟩
      show Ending.returned (Value.bool ((FloatKind.f64.format.order v1 0 == some .gt) == (FloatKind.f64.format.order v 0 == some .gt))) = _
      rw [e]; simp
  · have hb : nanB .f64 b = true := by rw [← nan_nz, ← hab, nan_nz]; exact hn
    have t1 := ne_self .f64 a
    rw [hn] at t1
    have t2 := ne_self .f64 b
    rw [hb] at t2
    clear hn hb hab
    go_enter Try.func22, Try.ntmps22
    go_wp2
    go_ret
    exact ⟨rfl, 0, rfl⟩
end Go.Proofs.Ytmomgaiondjinaa
