/- The walks of IsFinite, of the reference's IsFinite, and of sameFloat on words that are the same but for a NaN's bits. No condition. -/
import Derived.Test.YtlpjclglhjcghaaDoorFl
import Derived.Test.YtlpjclglhjcghaaDoorChecked
import Derived.KernelRfl
namespace Go.Proofs.YtlpjclglhjcghaaDoor
open Go.RowKit Go.Proofs.YtlpjclglhjcghaaDoor.Fl

/-- What is the same but for a NaN's bits: true. -/
theorem sameFloat_any (a b : Nat) (hab : nz .f64 a = nz .f64 b) (w : World) :
    Calls Tryd.prog 43 #[.float .f64 a, .float .f64 b] w fun e w' => e = .returned (.bool true) ∧ ∃ n, w' = w.drewN n := by
  cases hn : nanB .f64 a
  · have hb : nanB .f64 b = false := by rw [← nan_nz, ← hab, nan_nz]; exact hn
    have e : a = b := by rw [← nz_num hn, ← nz_num hb]; exact hab
    clear hab
    subst e
    have t1 := ne_self .f64 a
    rw [hn] at t1
    have t2 := eq_self .f64 a
    rw [hn] at t2
    clear hn hb
    cases t3 : (FloatKind.f64.format.order a 0 == some .eq)
    · go_enter Tryd.func43, Tryd.ntmps43
      go_wp2
      go_ret
      exact ⟨rfl, 0, rfl⟩
    · go_enter Tryd.func43, Tryd.ntmps43
      go_wp2_with (refine wpList_fop _ rfl _ _ _ _ _ rfl rfl _ _ _ rfl rfl ?_; intro v n hv hb)
      go_ret
      rename_i v1 n1 h1 b1
      have e : FloatKind.f64.format.order v1 0 = FloatKind.f64.format.order v 0 := by rw [← order_nz_left, h1.out, ← hv.out, order_nz_left]
      refine ⟨?_, _, rfl⟩
      show Ending.returned (Value.bool ((FloatKind.f64.format.order v1 0 == some .gt) == (FloatKind.f64.format.order v 0 == some .gt))) = _
      rw [e]; simp
  · have hb : nanB .f64 b = true := by rw [← nan_nz, ← hab, nan_nz]; exact hn
    have t1 := ne_self .f64 a
    rw [hn] at t1
    have t2 := ne_self .f64 b
    rw [hb] at t2
    clear hn hb hab
    go_enter Tryd.func43, Tryd.ntmps43
    go_wp2
    go_ret
    exact ⟨rfl, 0, rfl⟩
end Go.Proofs.YtlpjclglhjcghaaDoor
