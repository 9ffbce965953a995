/- The walks of SineTurns, of the program and of the reference. No condition. -/
import Derived.Test.YthckidnmmmfjbaaSine
namespace Go.Proofs.Ythckidnmmmfjbaa
open Go.RowKit Go.Proofs.Ythckidnmmmfjbaa.Fl

theorem nan_word : nanB .f64 9221120237041090561 = true := by decide +kernel
theorem nan_any (w : World) :
    Calls Try.prog 46 #[] w fun e w' => e = .returned (.float .f64 9221120237041090561) ∧ w = w' := by
  go_enter Try.func46, Try.ntmps46
  go_wp2
  go_ret
  exact ⟨rfl, rfl⟩

theorem specSine_nan (t : Nat) (h : finB .f64 t = false) (w : World) :
    Calls Try.prog 70 #[.float .f64 t] w (RetF .f64 (cnan .f64) w) := by
  have H := hid h
  clear h
  go_enter Try.func70, Try.ntmps70
  go_wp2_with (first | (go_at_call 46; refine (nan_any _).mono ?_; rintro e w1 ⟨rfl, rfl⟩) | (refine wpList_fop _ rfl _ _ _ _ _ rfl rfl _ _ _ rfl rfl ?_; intro v n hv hb; have ht := fin_test' hv.out; rw [H.out] at ht))
  go_ret
  exact ⟨_, _, rfl, nz_nan nan_word, by unfold Hid; decide, rfl⟩

theorem big_yes {t : Nat} (h : finW Ieee.double t) (hb : bigB t = true) : (FloatKind.f64.format.order t 4841369599423283200 == some .gt || FloatKind.f64.format.order t 4841369599423283200 == some .eq) = true ∨ ((FloatKind.f64.format.order t 4841369599423283200 == some .gt || FloatKind.f64.format.order t 4841369599423283200 == some .eq) = false ∧ (FloatKind.f64.format.order t 14064741636278059008 == some .lt || FloatKind.f64.format.order t 14064741636278059008 == some .eq) = true) := by
  rw [big_geq h, big_leq h]
  rw [big_or] at hb
  generalize decide (((2 ^ (52 + oneE) : Nat) : Int) ≤ valW Ieee.double t) = p at *
  generalize decide (valW Ieee.double t ≤ -((2 ^ (52 + oneE) : Nat) : Int)) = q at *
  cases p <;> cases q <;> simp_all

theorem specSine_big (t : Nat) (h1 : finW Ieee.double t) (h2 : bigB t = true) (w : World) :
    Calls Try.prog 70 #[.float .f64 t] w (RetF .f64 0 w) := by
  have ZN := zero_ne
  have SF := hid (bits_self h1)
  rcases big_yes h1 h2 with T1 | ⟨T1, T2⟩
  · clear h1 h2
    go_enter Try.func70, Try.ntmps70
    go_wp2_with (refine wpList_fopx _ rfl .sub _ _ _ _ rfl rfl .f64 t t 0 rfl rfl SF.out ?_)
    go_ret
    exact ⟨_, 0, rfl, nz_num (nanB_fin fzero), by unfold Hid; decide, rfl⟩
  · clear h1 h2
    go_enter Try.func70, Try.ntmps70
    go_wp2_with (refine wpList_fopx _ rfl .sub _ _ _ _ rfl rfl .f64 t t 0 rfl rfl SF.out ?_)
    go_ret
    exact ⟨_, 0, rfl, nz_num (nanB_fin fzero), by unfold Hid; decide, rfl⟩

/-- What SineTurns gives. -/
def turnsV (x : Nat) : Nat := if !finB .f32 x then cnan .f32 else if bigB (fcv .f32 .f64 x) then 0 else fcv .f64 .f32 (sineV (fcv .f32 .f64 x))
theorem turns_nan {x : Nat} (h : finB .f32 x = false) : turnsV x = cnan .f32 := by unfold turnsV; rw [h]; rfl
theorem turns_big {x v : Nat} (h : finB .f32 x = true) (hv : fcv .f32 .f64 x = v) (hb : bigB v = true) : turnsV x = 0 := by unfold turnsV; rw [h, hv, hb]; rfl
theorem turns_fin {x v : Nat} (h : finB .f32 x = true) (hv : fcv .f32 .f64 x = v) (hb : bigB v = false) : turnsV x = fcv .f64 .f32 (sineV v) := by unfold turnsV; rw [h, hv, hb]; rfl

theorem fin64 {v : Nat} (h : finW Ieee.double v) : finB .f64 v = true := decide_eq_true h

theorem implTurns_any (x : Nat) (hx : x < 2 ^ 32) (w : World) :
    Calls Try.prog 21 #[.float .f32 x] w (RetF .f32 (turnsV x) w) := by
  have HX := hid hx
  clear hx
  cases hf : finB .f32 x
  · have HV := hid (turns_nan hf)
    have HF := hid hf
    clear hf
    go_enter Try.func21, Try.ntmps21
    go_wp2_with (first | (refine wpList_fcv _ rfl _ _ _ rfl _ _ x rfl (by decide) rfl Try.underlying26 (narrows_up _) HX.out ?_; intro v n hv hb) | (go_at_call 45; refine (isFinite_any _ _).mono ?_; rintro e w1 ⟨rfl, n1, rfl⟩; rw [finB_of hv.out, fin_widen, HF.out]) | (go_at_call 46; refine (nan_any _).mono ?_; rintro e w1 ⟨rfl, rfl⟩) | (refine wpList_fcv _ rfl _ _ _ rfl .f64 .f32 9221120237041090561 rfl (by decide) rfl Try.underlying22 (narrows_nan nan_word) (by decide) ?_; intro r m hr hc))
    go_ret
    refine ⟨r, _, rfl, ?_, hc, rfl⟩
    unfold Hid
    rw [hr.out, HV.out]; decide +kernel
  · obtain ⟨v, hv, hvf, hvl, he, hvn⟩ := widen_exact (of_decide_eq_true hf)
    have HV := hid hv
    have HL := hid hvl
    have BA := big_abs hvf
    have HFV := hid (fin64 hvf)
    have HVF := hid hvf
    clear hv hvl
    cases hb : bigB v
    · have HE := hid (turns_fin hf he hb)
      have HB := hid (bd_of_small hvf hb)
      rw [hb] at BA
      clear hf he hvn hvf hb
      go_enter Try.func21, Try.ntmps21
      go_wp2_with (first | (refine wpList_fcvx _ rfl _ _ _ rfl _ _ x v rfl rfl Try.underlying26 HV.out ?_) | (go_at_call 45; refine (isFinite_any _ _).mono ?_; rintro e w1 ⟨rfl, n1, rfl⟩; rw [HFV.out]) | (go_at_call 47; refine (abs_any _ HL.out _).mono ?_; rintro e w1 ⟨rfl, rfl⟩) | (go_at_call 48; refine (implSine_any _ HB.out _).mono ?_; rintro e w1 ⟨u, nu, rfl, hu, bu, rfl⟩) | (refine wpList_fcv _ rfl _ _ _ rfl .f64 .f32 u rfl (by decide) rfl Try.underlying22 (sine_narrows HB.out hu.out) bu.out ?_; intro r m hr hc))
      go_ret
      refine ⟨r, _, rfl, ?_, hc, rfl⟩
      unfold Hid
      rw [hr.out, HE.out, ← fcv_nz u (by decide), hu.out]
    · have HE := hid (turns_big hf he hb)
      rw [hb] at BA
      clear hf he hvn hvf hb
      go_enter Try.func21, Try.ntmps21
      go_wp2_with (first | (refine wpList_fcvx _ rfl _ _ _ rfl _ _ x v rfl rfl Try.underlying26 HV.out ?_) | (go_at_call 45; refine (isFinite_any _ _).mono ?_; rintro e w1 ⟨rfl, n1, rfl⟩; rw [HFV.out]) | (go_at_call 47; refine (abs_any _ HL.out _).mono ?_; rintro e w1 ⟨rfl, rfl⟩))
      go_ret
      exact ⟨0, _, rfl, by rw [HE.out]; exact nz_num (nanB_fin (finW_zero .f32)), hid32 (by decide), rfl⟩

theorem specTurns_any (x : Nat) (hx : x < 2 ^ 32) (w : World) :
    Calls Try.prog 44 #[.float .f32 x] w (RetF .f32 (turnsV x) w) := by
  have HX := hid hx
  clear hx
  cases hf : finB .f32 x
  · have HV := hid (turns_nan hf)
    have HF := hid hf
    clear hf
    go_enter Try.func44, Try.ntmps44
    go_wp2_with (first | (refine wpList_fcv _ rfl _ _ _ rfl _ _ x rfl (by decide) rfl Try.underlying26 (narrows_up _) HX.out ?_; intro v n hv hb) | (go_at_call 70; refine (specSine_nan _ (by rw [finB_of hv.out, fin_widen, HF.out]) _).mono ?_; rintro e w1 ⟨u, nu, rfl, hu, bu, rfl⟩) | (refine wpList_fcv _ rfl _ _ _ rfl .f64 .f32 u rfl (by decide) rfl Try.underlying22 (narrows_nan (by rw [← nan_nz, hu.out]; exact nanB_cnan .f64)) bu.out ?_; intro r m hr hc) | go_in)
    go_ret
    refine ⟨r, _, rfl, ?_, hc, rfl⟩
    unfold Hid
    rw [hr.out, HV.out, ← fcv_nz u (by decide), hu.out]; decide +kernel
  · obtain ⟨v, hv, hvf, hvl, he, hvn⟩ := widen_exact (of_decide_eq_true hf)
    have HV := hid hv
    have HVF := hid hvf
    clear hv hvl
    cases hb : bigB v
    · have HE := hid (turns_fin hf he hb)
      have HB := hid (bd_of_small hvf hb)
      have HBG := hid hb
      clear hf he hvn hvf hb
      go_enter Try.func44, Try.ntmps44
      go_wp2_with (first | (refine wpList_fcvx _ rfl _ _ _ rfl _ _ x v rfl rfl Try.underlying26 HV.out ?_) | (go_at_call 70; refine (specSine_any _ HVF.out HBG.out _).mono ?_; rintro e w1 ⟨u, nu, rfl, hu, bu, rfl⟩) | (refine wpList_fcv _ rfl _ _ _ rfl .f64 .f32 u rfl (by decide) rfl Try.underlying22 (sine_narrows HB.out hu.out) bu.out ?_; intro r m hr hc) | go_in)
      go_ret
      refine ⟨r, _, rfl, ?_, hc, rfl⟩
      unfold Hid
      rw [hr.out, HE.out, ← fcv_nz u (by decide), hu.out]
    · have HE := hid (turns_big hf he hb)
      have HBG := hid hb
      clear hf he hvn hvf hb
      go_enter Try.func44, Try.ntmps44
      go_wp2_with (first | (refine wpList_fcvx _ rfl _ _ _ rfl _ _ x v rfl rfl Try.underlying26 HV.out ?_) | (go_at_call 70; refine (specSine_big _ HVF.out HBG.out _).mono ?_; rintro e w1 ⟨u, nu, rfl, hu, bu, rfl⟩) | (refine wpList_fcv _ rfl _ _ _ rfl .f64 .f32 u rfl (by decide) rfl Try.underlying22 (narrows_bd (b_word (by rw [eq_of_nz hu.out (nanB_fin fzero)]; exact fzero) (by rw [eq_of_nz hu.out (nanB_fin fzero)]; exact b_zero.2)) (by omega)) bu.out ?_; intro r m hr hc) | go_in)
      go_ret
      refine ⟨r, _, rfl, ?_, hc, rfl⟩
      unfold Hid
      rw [hr.out, HE.out, eq_of_nz hu.out (nanB_fin fzero)]; decide +kernel
end Go.Proofs.Ythckidnmmmfjbaa
