/- The walks of CurveTime, of the program and of the reference. No condition. -/
import Derived.Test.YthckidnmmmfjbaaNum
namespace Go.Proofs.Ythckidnmmmfjbaa
open Go.RowKit Go.Proofs.Ythckidnmmmfjbaa.Fl

/-- The root of the sum of two squares, each rounded. -/
def hypV (s q : Nat) : Nat := rootV (fop .add .f32 (fop .mul .f32 s s) (fop .mul .f32 q q))
theorem hyp_end {s q v2 v3 v4 r : Nat} (h2 : Hid (nz .f32 v2 = fop .mul .f32 s s)) (h3 : Hid (nz .f32 v3 = fop .mul .f32 q q)) (h4 : Hid (nz .f32 v4 = fop .add .f32 v2 v3)) (hr : Hid (nz .f32 r = rootV v4)) : Hid (nz .f32 r = hypV s q) := by
  unfold Hid hypV
  rw [hr.out, ← rootV_nz v4, h4.out, ← fop_nz_left .add .f32 v2 v3, h2.out, ← fop_nz_right .add .f32 _ v3, h3.out]
theorem hypV_nz (s q : Nat) : hypV s (nz .f32 q) = hypV s q := by unfold hypV; rw [fop_nz_left, fop_nz_right]
theorem hypV_nz' (s q : Nat) : hypV (nz .f32 s) q = hypV s q := by unfold hypV; rw [fop_nz_left, fop_nz_right]
/-- What CurveTime gives where its arguments are in order. -/
def curveV (s w p : Nat) : Nat := hypV s (fop .quo .f32 w p)
theorem curve_end {s w p q r : Nat} (h1 : Hid (nz .f32 q = fop .quo .f32 w p)) (hr : Hid (nz .f32 r = hypV s q)) : Hid (nz .f32 r = curveV s w p) := by
  unfold Hid curveV
  rw [hr.out, ← hypV_nz s q, h1.out]

theorem curve_any (s x p : Nat) (w : World) :
    Calls Try.prog 53 #[.float .f32 s, .float .f32 x, .float .f32 p] w (RetF .f32 (curveV s x p) w) := by
  go_enter Try.func53, Try.ntmps53
  go_wp2_with (first | (refine wpList_fop _ rfl _ _ _ _ _ rfl rfl _ _ _ rfl rfl ?_; intro v n hv hb) | (go_at_call 19; refine (implRoot_any _ hb.out _).mono ?_; rintro e w1 ⟨r, nr, rfl, hr, br, rfl⟩))
  go_ret
  rename_i v1 n1 h1 b1 v2 n2 h2 b2 v3 n3 h3 b3
  exact ⟨r, _, rfl, curve_end h1 (hyp_end h2 h3 hv hr), br, rfl⟩
theorem implCurve_any (s x p : Nat) (hs : s < 2 ^ 32) (hx : x < 2 ^ 32) (hp : p < 2 ^ 32) (w : World) :
    Calls Try.prog 23 #[.float .f32 s, .float .f32 x, .float .f32 p] w (RetFBW .f32 (finN (finB .f32 s && finB .f32 x && posB p) (curveV s x p)) ((finB .f32 s && finB .f32 x && posB p) && finB .f32 (curveV s x p)) w) := by
  have HS := hid hs
  have HX := hid hx
  have HP := hid hp
  clear hs hx hp
  have E2 := hid (all2 (finB .f32) s x)
  have E1 := hid (all1 posB p)
  cases hf : (finB .f32 s && finB .f32 x)
  · go_enter Try.func23, Try.ntmps23
    go_wp2_with (first | (go_at_call 53; refine (curve_any _ _ _ _).mono ?_; rintro e w1 ⟨r, nr, rfl, hr, br, rfl⟩) | (go_at_call 54; refine (areFinite_any _ _ _ [s, x] _ (len2 _ _) (fcells2 _ _ rfl _ _ _ HS.out HX.out)).mono ?_; rintro e w1 ⟨rfl, n1, rfl⟩; rw [E2.out, hf]) | (go_at_call 52; refine (finite_any _ _ br.out _).mono ?_; rintro e w1 ⟨u, nu, rfl, hu, bu, rfl⟩))
    go_ret2
    exact ⟨u, rfl, hu, bu, by repeat (first | exact Below.refl _ _ | refine below_drewN ?_ _ | refine Below.alloc ?_ (by first | exact Nat.le_refl _ | (simp; done) | (simp; omega)) _)⟩
  · go_enter Try.func23, Try.ntmps23
    go_wp2_with (first | (go_at_call 53; refine (curve_any _ _ _ _).mono ?_; rintro e w1 ⟨r, nr, rfl, hr, br, rfl⟩) | (go_at_call 54; refine (areFinite_any _ _ _ [s, x] _ (len2 _ _) (fcells2 _ _ rfl _ _ _ HS.out HX.out)).mono ?_; rintro e w1 ⟨rfl, n1, rfl⟩; rw [E2.out, hf]) | (go_at_call 55; refine (arePositive_any _ _ _ [p] _ (len1 _) (fcells1 _ _ (by simp) _ _ HP.out)).mono ?_; rintro e w1 ⟨rfl, n2, rfl⟩; rw [E1.out]) | (go_at_call 52; refine (finite_any _ _ br.out _).mono ?_; rintro e w1 ⟨u, nu, rfl, hu, bu, rfl⟩))
    go_ret2
    refine ⟨u, ?_, ?_, bu, by repeat (first | exact Below.refl _ _ | refine below_drewN ?_ _ | refine Below.alloc ?_ (by first | exact Nat.le_refl _ | (simp; done) | (simp; omega)) _)⟩
    · show Ending.returned (.tuple #[.float .f32 u, .bool (posB p && finB .f32 r)]) = _
      rw [finB_of hr.out]; rfl
    · unfold Hid; rw [hu.out, finN_of hr.out]; rfl

theorem specCurve_any (s x p : Nat) (w : World) :
    Calls Try.prog 22 #[.float .f32 s, .float .f32 x, .float .f32 p] w (RetFB .f32 (finN (finB .f32 s && finB .f32 x && posB p) (curveV s x p)) ((finB .f32 s && finB .f32 x && posB p) && finB .f32 (curveV s x p)) w) := by
  cases h1 : finB .f32 s
  · go_enter Try.func22, Try.ntmps22
    go_wp2_with (go_at_call 49; refine (specFinite_any _ _).mono ?_; rintro e w1 ⟨rfl, n1, rfl⟩; rw [h1])
    go_ret2
    exact ⟨0, _, rfl, nz_num (nanB_fin (finW_zero .f32)), hid32 (by decide), rfl⟩
  · cases h2 : finB .f32 x
    · go_enter Try.func22, Try.ntmps22
      go_wp2_with (go_at_call 49; refine (specFinite_any _ _).mono ?_; rintro e w1 ⟨rfl, n1, rfl⟩; first | rw [h1] | rw [h2])
      go_ret2
      exact ⟨0, _, rfl, nz_num (nanB_fin (finW_zero .f32)), hid32 (by decide), rfl⟩
    · cases h3 : posB p
      · go_enter Try.func22, Try.ntmps22
        go_wp2_with (first | (go_at_call 49; refine (specFinite_any _ _).mono ?_; rintro e w1 ⟨rfl, n1, rfl⟩; first | rw [h1] | rw [h2]) | (go_at_call 50; refine (above_any _ _).mono ?_; rintro e w1 ⟨rfl, n2, rfl⟩; rw [h3]))
        go_ret2
        exact ⟨0, _, rfl, nz_num (nanB_fin (finW_zero .f32)), hid32 (by decide), rfl⟩
      · go_enter Try.func22, Try.ntmps22
        go_wp2_with (first | (go_at_call 49; refine (specFinite_any _ _).mono ?_; rintro e w1 ⟨rfl, n1, rfl⟩; first | rw [h1] | rw [h2]) | (go_at_call 50; refine (above_any _ _).mono ?_; rintro e w1 ⟨rfl, n2, rfl⟩; rw [h3]) | (refine wpList_fop _ rfl _ _ _ _ _ rfl rfl _ _ _ rfl rfl ?_; intro v n hv hb) | (go_at_call 42; refine (specRoot_any _ hb.out _).mono ?_; rintro e w1 ⟨r, nr, rfl, hr, br, rfl⟩) | (go_at_call 51; refine (number_any _ br.out _).mono ?_; rintro e w1 ⟨u, nu, rfl, hu, bu, rfl⟩))
        go_ret2
        rename_i v1 n1 k1 b1 v2 n2 k2 b2 v3 n3 k3 b3
        have hc := curve_end k1 (hyp_end k2 k3 hv hr)
        refine ⟨u, _, ?_, ?_, bu, rfl⟩
        · show Ending.returned (.tuple #[.float .f32 u, .bool (finB .f32 r)]) = _
          rw [finB_of hc.out]; rfl
        · unfold Hid; rw [hu.out, finN_of hc.out]; rfl
end Go.Proofs.Ythckidnmmmfjbaa
