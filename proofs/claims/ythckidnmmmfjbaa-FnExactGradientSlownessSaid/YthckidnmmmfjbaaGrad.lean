/- The walks of GradientDepth and GradientSlowness, of the program and of the reference. No condition. -/
import Derived.Test.YthckidnmmmfjbaaCurve
namespace Go.Proofs.Ythckidnmmmfjbaa
open Go.RowKit Go.Proofs.Ythckidnmmmfjbaa.Fl

/-- The numbers of a gradient. -/
def gradB (t s x : Nat) : Bool := posB t && posB s && nonB x
/-- The radius of a ray in a gradient. -/
def roundV (t s x : Nat) : Nat := hypV (fop .quo .f32 x 1073741824) (fop .quo .f32 t s)
theorem round_end {t s x v1 v2 r : Nat} (h1 : Hid (nz .f32 v1 = fop .quo .f32 x 1073741824)) (h2 : Hid (nz .f32 v2 = fop .quo .f32 t s)) (hr : Hid (nz .f32 r = hypV v1 v2)) : Hid (nz .f32 r = roundV t s x) := by
  unfold Hid roundV
  rw [hr.out, ← hypV_nz v1 v2, ← hypV_nz' v1, h1.out, h2.out]
theorem round_end' {t s x v1 v2 r : Nat} (h1 : Hid (nz .f32 v1 = fop .mul .f32 1056964608 x)) (h2 : Hid (nz .f32 v2 = fop .quo .f32 t s)) (hr : Hid (nz .f32 r = hypV v1 v2)) : Hid (nz .f32 r = roundV t s x) :=
  round_end (show nz .f32 v1 = _ by rw [h1.out, half_eq]) h2 hr

theorem gradient_any (t s x : Nat) (w : World) :
    Calls Try.prog 59 #[.float .f32 t, .float .f32 s, .float .f32 x] w (RetV (.bool (gradB t s x)) w) := by
  cases h1 : posB t
  · have H : Hid (gradB t s x = false) := by unfold Hid gradB; rw [h1]; rfl
    go_enter Try.func59, Try.ntmps59
    go_wp2_with (go_at_call 50; refine (above_any _ _).mono ?_; rintro e w1 ⟨rfl, n1, rfl⟩; rw [h1])
    go_ret
    exact ⟨by rw [H.out]; rfl, _, rfl⟩
  · cases h2 : posB s
    · have H : Hid (gradB t s x = false) := by unfold Hid gradB; rw [h1, h2]; rfl
      go_enter Try.func59, Try.ntmps59
      go_wp2_with (go_at_call 50; refine (above_any _ _).mono ?_; rintro e w1 ⟨rfl, n1, rfl⟩; first | rw [h1] | rw [h2])
      go_ret
      exact ⟨by rw [H.out]; rfl, _, rfl⟩
    · have H : Hid (gradB t s x = nonB x) := by unfold Hid gradB; rw [h1, h2]; rfl
      go_enter Try.func59, Try.ntmps59
      go_wp2_with (first | (go_at_call 50; refine (above_any _ _).mono ?_; rintro e w1 ⟨rfl, n1, rfl⟩; first | rw [h1] | rw [h2]) | (go_at_call 76; refine (way_any _ _).mono ?_; rintro e w1 ⟨rfl, n2, rfl⟩))
      go_ret
      exact ⟨by rw [H.out]; rfl, _, rfl⟩

theorem specRound_any (t s x : Nat) (w : World) :
    Calls Try.prog 60 #[.float .f32 t, .float .f32 s, .float .f32 x] w (RetF .f32 (roundV t s x) w) := by
  go_enter Try.func60, Try.ntmps60
  go_wp2_with (first | (refine wpList_fop _ rfl _ _ _ _ _ rfl rfl _ _ _ rfl rfl ?_; intro v n hv hb) | (go_at_call 42; refine (specRoot_any _ hb.out _).mono ?_; rintro e w1 ⟨r, nr, rfl, hr, br, rfl⟩))
  go_ret
  rename_i v1 n1 h1 b1 v2 n2 h2 b2 v3 n3 h3 b3 v4 n4 h4 b4
  exact ⟨r, _, rfl, round_end' h1 h2 (hyp_end h3 h4 hv hr), br, rfl⟩

/-- What turning hands back. -/
def Turned (t s x : Nat) (w : World) (e : Ending) (w' : World) : Prop := ∃ c r, e = .returned (.tuple #[.float .f32 c, .float .f32 r, .bool (gradB t s x)]) ∧ Hid (nz .f32 c = fop .quo .f32 t s) ∧ Hid (nz .f32 r = roundV t s x) ∧ Hid (c < 2 ^ FloatKind.f32.format.width) ∧ Hid (r < 2 ^ FloatKind.f32.format.width) ∧ Below w.heap.size w w'

theorem turning_any (t s x : Nat) (ht : t < 2 ^ 32) (hs : s < 2 ^ 32) (hx : x < 2 ^ 32) (w : World) :
    Calls Try.prog 61 #[.float .f32 t, .float .f32 s, .float .f32 x] w (Turned t s x w) := by
  have HT := hid ht
  have HS := hid hs
  have HX := hid hx
  clear ht hs hx
  have E2 := hid (all2 posB t s)
  cases hf : (posB t && posB s)
  · have H : Hid (gradB t s x = false) := by unfold Hid gradB; rw [hf]; rfl
    go_enter Try.func61, Try.ntmps61
    go_wp2_with (first | (refine wpList_fop _ rfl _ _ _ _ _ rfl rfl _ _ _ rfl rfl ?_; intro v n hv hb) | (go_at_call 19; refine (implRoot_any _ hb.out _).mono ?_; rintro e w1 ⟨r, nr, rfl, hr, br, rfl⟩) | (go_at_call 55; refine (arePositive_any _ _ _ [t, s] _ (len2 _ _) (fcells2 _ _ (by simp) _ _ _ HT.out HS.out)).mono ?_; rintro e w1 ⟨rfl, m1, rfl⟩; rw [E2.out, hf]))
    go_ret3
    rename_i v1 n1 h1 b1 v2 n2 h2 b2 v3 n3 h3 b3 v4 n4 h4 b4
    refine ⟨v2, r, ?_, h2, round_end h1 h2 (hyp_end h3 h4 hv hr), b2, br, by repeat (first | exact Below.refl _ _ | refine below_drewN ?_ _ | refine Below.alloc ?_ (by first | exact Nat.le_refl _ | (simp; done) | (simp; omega)) _)⟩
    rw [H.out]; rfl
  · have H : Hid (gradB t s x = nonB x) := by unfold Hid gradB; rw [hf]; rfl
    go_enter Try.func61, Try.ntmps61
    go_wp2_with (first | (refine wpList_fop _ rfl _ _ _ _ _ rfl rfl _ _ _ rfl rfl ?_; intro v n hv hb) | (go_at_call 19; refine (implRoot_any _ hb.out _).mono ?_; rintro e w1 ⟨r, nr, rfl, hr, br, rfl⟩) | (go_at_call 55; refine (arePositive_any _ _ _ [t, s] _ (len2 _ _) (fcells2 _ _ (by simp) _ _ _ HT.out HS.out)).mono ?_; rintro e w1 ⟨rfl, m1, rfl⟩; rw [E2.out, hf]) | (go_at_call 77; refine (nonNeg_any _ HX.out _).mono ?_; rintro e w1 ⟨rfl, m2, rfl⟩))
    go_ret3
    rename_i v1 n1 h1 b1 v2 n2 h2 b2 v3 n3 h3 b3 v4 n4 h4 b4
    refine ⟨v2, r, ?_, h2, round_end h1 h2 (hyp_end h3 h4 hv hr), b2, br, by repeat (first | exact Below.refl _ _ | refine below_drewN ?_ _ | refine Below.alloc ?_ (by first | exact Nat.le_refl _ | (simp; done) | (simp; omega)) _)⟩
    rw [H.out]; rfl

/-- How deep the ray comes; its slowness. -/
def depthV (t s x : Nat) : Nat := fop .sub .f32 (roundV t s x) (fop .quo .f32 t s)
def slowV (t s x : Nat) : Nat := fop .quo .f32 1065353216 (fop .mul .f32 s (roundV t s x))
theorem depth_end {t s x c r v : Nat} (hc : Hid (nz .f32 c = fop .quo .f32 t s)) (hr : Hid (nz .f32 r = roundV t s x)) (hv : Hid (nz .f32 v = fop .sub .f32 r c)) : Hid (nz .f32 v = depthV t s x) := by
  unfold Hid depthV
  rw [hv.out, ← fop_nz_left .sub .f32 r c, hr.out, ← fop_nz_right .sub .f32 _ c, hc.out]
theorem slow_end {t s x r u v : Nat} (hr : Hid (nz .f32 r = roundV t s x)) (hu : Hid (nz .f32 u = fop .mul .f32 s r)) (hv : Hid (nz .f32 v = fop .quo .f32 1065353216 u)) : Hid (nz .f32 v = slowV t s x) := by
  unfold Hid slowV
  rw [hv.out, ← fop_nz_right .quo .f32 _ u, hu.out, ← fop_nz_right .mul .f32 s r, hr.out]

theorem specDepth_any (t s x : Nat) (w : World) :
    Calls Try.prog 26 #[.float .f32 t, .float .f32 s, .float .f32 x] w (RetFB .f32 (finN (gradB t s x) (depthV t s x)) (gradB t s x && finB .f32 (depthV t s x)) w) := by
  cases hg : gradB t s x
  · go_enter Try.func26, Try.ntmps26
    go_wp2_with (go_at_call 59; refine (gradient_any _ _ _ _).mono ?_; rintro e w1 ⟨rfl, n1, rfl⟩; rw [hg])
    go_ret2
    exact ⟨0, _, rfl, nz_num (nanB_fin (finW_zero .f32)), hid32 (by decide), rfl⟩
  · go_enter Try.func26, Try.ntmps26
    go_wp2_with (first | (go_at_call 59; refine (gradient_any _ _ _ _).mono ?_; rintro e w1 ⟨rfl, n1, rfl⟩; rw [hg]) | (go_at_call 60; refine (specRound_any _ _ _ _).mono ?_; rintro e w1 ⟨r, nr, rfl, hr, br, rfl⟩) | (refine wpList_fop _ rfl _ _ _ _ _ rfl rfl _ _ _ rfl rfl ?_; intro v n hv hb) | (go_at_call 51; refine (number_any _ hb.out _).mono ?_; rintro e w1 ⟨u, nu, rfl, hu, bu, rfl⟩))
    go_ret2
    rename_i v1 n1 k1 b1
    have hc := depth_end k1 hr hv
    refine ⟨u, _, ?_, ?_, bu, rfl⟩
    · show Ending.returned (.tuple #[.float .f32 u, .bool (finB .f32 v)]) = _
      rw [finB_of hc.out]; rfl
    · unfold Hid; rw [hu.out, finN_of hc.out]

theorem implDepth_any (t s x : Nat) (ht : t < 2 ^ 32) (hs : s < 2 ^ 32) (hx : x < 2 ^ 32) (w : World) :
    Calls Try.prog 27 #[.float .f32 t, .float .f32 s, .float .f32 x] w (RetFBW .f32 (finN (gradB t s x) (depthV t s x)) (gradB t s x && finB .f32 (depthV t s x)) w) := by
  have HT := hid ht
  have HS := hid hs
  have HX := hid hx
  clear ht hs hx
  go_enter Try.func27, Try.ntmps27
  go_wp2_with (first | (go_at_call 61; refine (turning_any _ _ _ HT.out HS.out HX.out _).mono ?_; rintro e w1 ⟨c, r, rfl, hc, hr, bc, br, hB⟩) | (refine wpList_fop _ rfl _ _ _ _ _ rfl rfl _ _ _ rfl rfl ?_; intro v n hv hb) | (go_at_call 52; refine (finite_any _ _ hb.out _).mono ?_; rintro e w2 ⟨u, nu, rfl, hu, bu, rfl⟩))
  go_ret2
  have hd := depth_end hc hr hv
  refine ⟨u, ?_, ?_, bu, below_drewN hB _⟩
  · show Ending.returned (.tuple #[.float .f32 u, .bool (gradB t s x && finB .f32 v)]) = _
    rw [finB_of hd.out]
  · unfold Hid; rw [hu.out, finN_of hd.out]

theorem specSlow_any (t s x : Nat) (w : World) :
    Calls Try.prog 28 #[.float .f32 t, .float .f32 s, .float .f32 x] w (RetFB .f32 (finN (gradB t s x) (slowV t s x)) (gradB t s x && finB .f32 (slowV t s x)) w) := by
  cases hg : gradB t s x
  · go_enter Try.func28, Try.ntmps28
    go_wp2_with (go_at_call 59; refine (gradient_any _ _ _ _).mono ?_; rintro e w1 ⟨rfl, n1, rfl⟩; rw [hg])
    go_ret2
    exact ⟨0, _, rfl, nz_num (nanB_fin (finW_zero .f32)), hid32 (by decide), rfl⟩
  · go_enter Try.func28, Try.ntmps28
    go_wp2_with (first | (go_at_call 59; refine (gradient_any _ _ _ _).mono ?_; rintro e w1 ⟨rfl, n1, rfl⟩; rw [hg]) | (go_at_call 60; refine (specRound_any _ _ _ _).mono ?_; rintro e w1 ⟨r, nr, rfl, hr, br, rfl⟩) | (refine wpList_fop _ rfl _ _ _ _ _ rfl rfl _ _ _ rfl rfl ?_; intro v n hv hb) | (go_at_call 51; refine (number_any _ hb.out _).mono ?_; rintro e w1 ⟨u, nu, rfl, hu, bu, rfl⟩))
    go_ret2
    rename_i v1 n1 k1 b1
    have hc := slow_end hr k1 hv
    refine ⟨u, _, ?_, ?_, bu, rfl⟩
    · show Ending.returned (.tuple #[.float .f32 u, .bool (finB .f32 v)]) = _
      rw [finB_of hc.out]; rfl
    · unfold Hid; rw [hu.out, finN_of hc.out]

theorem implSlow_any (t s x : Nat) (ht : t < 2 ^ 32) (hs : s < 2 ^ 32) (hx : x < 2 ^ 32) (w : World) :
    Calls Try.prog 29 #[.float .f32 t, .float .f32 s, .float .f32 x] w (RetFBW .f32 (finN (gradB t s x) (slowV t s x)) (gradB t s x && finB .f32 (slowV t s x)) w) := by
  have HT := hid ht
  have HS := hid hs
  have HX := hid hx
  clear ht hs hx
  go_enter Try.func29, Try.ntmps29
  go_wp2_with (first | (go_at_call 61; refine (turning_any _ _ _ HT.out HS.out HX.out _).mono ?_; rintro e w1 ⟨c, r, rfl, hc, hr, bc, br, hB⟩) | (refine wpList_fop _ rfl _ _ _ _ _ rfl rfl _ _ _ rfl rfl ?_; intro v n hv hb) | (go_at_call 52; refine (finite_any _ _ hb.out _).mono ?_; rintro e w2 ⟨u, nu, rfl, hu, bu, rfl⟩))
  go_ret2
  rename_i v1 n1 k1 b1
  have hd := slow_end hr k1 hv
  refine ⟨u, ?_, ?_, bu, below_drewN hB _⟩
  · show Ending.returned (.tuple #[.float .f32 u, .bool (gradB t s x && finB .f32 v)]) = _
    rw [finB_of hd.out]
  · unfold Hid; rw [hu.out, finN_of hd.out]
end Go.Proofs.Ythckidnmmmfjbaa
