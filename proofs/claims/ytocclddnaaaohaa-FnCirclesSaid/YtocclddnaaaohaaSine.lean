/- The walks of the sine of some turns, of the program and of the reference. No condition. -/
import Derived.Test.YtocclddnaaaohaaFs
import Derived.Test.YtocclddnaaaohaaAbs
import Derived.Test.YtocclddnaaaohaaFin
namespace Go.Proofs.Ytocclddnaaaohaa
open Go.RowKit Go.Proofs.Ytocclddnaaaohaa.Fl

theorem trunc_any (t : Nat) (ht : bdW Ieee.double t (52 + oneE)) (W : Nat) (hW : FloatKind.f64.encode ((FloatKind.f64.decode t).integral .zero) = W) (w : World) :
    Calls Try.prog 27 #[.float .f64 t] w fun e w' => e = .returned (.float .f64 W) ∧ w = w' := by
  have hE := run_truncE t w
  rw [toIntegral_fin w ht.1, hW] at hE
  simp only [Result.andThen] at hE
  clear hW ht
  go_enter Try.func27, Try.ntmps27
  go_wp2
  go_ret
  exact ⟨rfl, rfl⟩

theorem fraction_any (t : Nat) (ht : bdW Ieee.double t (52 + oneE)) (w : World) :
    Calls Try.prog 17 #[.float .f64 t] w fun e w' => e = .returned (.float .f64 (fracV t)) ∧ w = w' := by
  have HT := hid ht
  obtain ⟨W, hW, hc⟩ := trunc_cases ht
  have HW := hid hW
  have B1 := hid (bits_of_sub ht (bd_whole ht))
  have B2 := hid (bits_of_add (bd_diff ht) b_one)
  clear hW ht
  cases hl : (FloatKind.f64.format.order (fop .sub .f64 t (wholeF t)) 0 == some .lt)
  · have HF := hid (frac_no hl)
    rcases hc with ⟨hz, he⟩ | ⟨hz, he⟩
    · rw [he] at B1 hl HF
      clear he
      go_enter Try.func17, Try.ntmps17
      go_wp2_with (first | (go_at_call 27; refine (trunc_any _ HT.out W HW.out _).mono ?_; rintro e w1 ⟨rfl, rfl⟩) | (refine wpList_fopx _ rfl .sub _ _ _ _ rfl rfl .f64 t 0 _ rfl rfl B1.out ?_))
      go_ret
      exact ⟨by rw [HF.out]; rfl, rfl⟩
    · rw [he] at B1 hl HF
      clear he
      go_enter Try.func17, Try.ntmps17
      go_wp2_with (first | (go_at_call 27; refine (trunc_any _ HT.out W HW.out _).mono ?_; rintro e w1 ⟨rfl, rfl⟩) | (refine wpList_fopx _ rfl .sub _ _ _ _ rfl rfl .f64 t W _ rfl rfl B1.out ?_))
      go_ret
      exact ⟨by rw [HF.out]; rfl, rfl⟩
  · have HF := hid (frac_yes hl)
    rcases hc with ⟨hz, he⟩ | ⟨hz, he⟩
    · rw [he] at B1 B2 hl HF
      clear he
      go_enter Try.func17, Try.ntmps17
      go_wp2_with (first | (go_at_call 27; refine (trunc_any _ HT.out W HW.out _).mono ?_; rintro e w1 ⟨rfl, rfl⟩) | (refine wpList_fopx _ rfl .sub _ _ _ _ rfl rfl .f64 t 0 _ rfl rfl B1.out ?_) | (refine wpList_fopx _ rfl .add _ _ _ _ rfl rfl .f64 _ 4607182418800017408 _ rfl rfl B2.out ?_))
      go_ret
      exact ⟨by rw [HF.out]; rfl, rfl⟩
    · rw [he] at B1 B2 hl HF
      clear he
      go_enter Try.func17, Try.ntmps17
      go_wp2_with (first | (go_at_call 27; refine (trunc_any _ HT.out W HW.out _).mono ?_; rintro e w1 ⟨rfl, rfl⟩) | (refine wpList_fopx _ rfl .sub _ _ _ _ rfl rfl .f64 t W _ rfl rfl B1.out ?_) | (refine wpList_fopx _ rfl .add _ _ _ _ rfl rfl .f64 _ 4607182418800017408 _ rfl rfl B2.out ?_))
      go_ret
      exact ⟨by rw [HF.out]; rfl, rfl⟩

/-- f folded to a quarter, by its tests. -/
theorem fold_00 {f : Nat} (hb : belowB f = false) (hc : (FloatKind.f64.format.order f 4598175219545276416 == some .gt) = false) : fold2 (fold1 f) = f := by
  have e : fold1 f = f := by unfold fold1; rw [hb]; rfl
  rw [e]; unfold fold2; rw [hc]; rfl
theorem fold_01 {f h : Nat} (hb : belowB f = false) (hc : (FloatKind.f64.format.order f 4598175219545276416 == some .gt) = true) (hh : fop .sub .f64 4602678819172646912 f = h) : fold2 (fold1 f) = h := by
  have e : fold1 f = f := by unfold fold1; rw [hb]; rfl
  rw [e]; unfold fold2; rw [hc]; exact hh
theorem fold_10 {f g : Nat} (hb : belowB f = true) (hg : fop .sub .f64 f 4602678819172646912 = g) (hc : (FloatKind.f64.format.order g 4598175219545276416 == some .gt) = false) : fold2 (fold1 f) = g := by
  have e : fold1 f = g := by unfold fold1; rw [hb]; exact hg
  rw [e]; unfold fold2; rw [hc]; rfl
theorem fold_11 {f g h : Nat} (hb : belowB f = true) (hg : fop .sub .f64 f 4602678819172646912 = g) (hc : (FloatKind.f64.format.order g 4598175219545276416 == some .gt) = true) (hh : fop .sub .f64 4602678819172646912 g = h) : fold2 (fold1 f) = h := by
  have e : fold1 f = g := by unfold fold1; rw [hb]; exact hg
  rw [e]; unfold fold2; rw [hc]; exact hh
theorem sine_pos {f h z u v r : Nat} (hb : belowB f = false) (hh : fold2 (fold1 f) = h) (hz : Hid (nz .f64 z = fop .mul .f64 h 4618760256179416344)) (hu : Hid (nz .f64 u = fop .mul .f64 z z)) (hv : Hid (nz .f64 v = polyV u 8)) (hr : Hid (nz .f64 r = fop .mul .f64 z v)) : Hid (nz .f64 r = sineF f) := by
  have hz' : Hid (nz .f64 z = sineZ f) := by unfold Hid sineZ; rw [hh]; exact hz.out
  have := sine_steps hz' hu hv hr
  unfold Hid sineF; rw [hb]; exact this.out
theorem sine_neg {f h z u v r : Nat} (hb : belowB f = true) (hh : fold2 (fold1 f) = h) (hz : Hid (nz .f64 z = fop .mul .f64 h 4618760256179416344)) (hu : Hid (nz .f64 u = fop .mul .f64 z z)) (hv : Hid (nz .f64 v = polyV u 8)) (hr : Hid (nz .f64 r = fop .mul .f64 z v)) : Hid (nz .f64 (Op.negFloat .f64 r) = sineF f) := by
  have hz' : Hid (nz .f64 z = sineZ f) := by unfold Hid sineZ; rw [hh]; exact hz.out
  have := sine_steps hz' hu hv hr
  unfold Hid sineF; rw [hb, if_pos rfl, ← this.out]; exact (nz_neg r).symm
theorem neg_lt {r : Nat} (h : r < 2 ^ 64) : Op.negFloat .f64 r < 2 ^ 64 := by
  show r ^^^ 2 ^ 63 < 2 ^ 64
  exact Nat.xor_lt_two_pow h (by decide)
theorem bdf {t : Nat} (h : bdW Ieee.double t (52 + oneE)) : bdW Ieee.double (fracV t) 1074 := frac_bd h
theorem poly_next {u j v a b c : Nat} (hv : Hid (nz .f64 v = polyV u j)) (ha : Hid (nz .f64 a = fop .mul .f64 u v)) (hb : Hid (nz .f64 b = fop .quo .f64 a (floatOfInt .f64 (2 * (8 - (j : Int)) * (2 * (8 - (j : Int)) + 1))))) (hc : Hid (nz .f64 c = fop .sub .f64 4607182418800017408 b)) : Hid (nz .f64 c = polyV u (j + 1)) := by
  unfold Hid
  show nz .f64 c = pstep u (8 - (j : Int)) (polyV u j)
  unfold pstep
  rw [hc.out, ← fop_nz_right .sub .f64 _ b, hb.out, ← fop_nz_left .quo .f64 a, ha.out, ← fop_nz_right .mul .f64 u v, hv.out]
theorem prod_bd {j : Nat} (h : j < 8) : 0 ≤ 2 * (8 - (j : Int)) * (2 * (8 - (j : Int)) + 1) ∧ 2 * (8 - (j : Int)) * (2 * (8 - (j : Int)) + 1) ≤ 272 := by
  obtain ⟨k, hk⟩ : ∃ k : Nat, k = 8 - j := ⟨_, rfl⟩
  have ek : (8 : Int) - (j : Int) = (k : Int) := by omega
  rw [ek]
  have hb : 2 * k * (2 * k + 1) ≤ 16 * 17 := Nat.mul_le_mul (by omega) (by omega)
  have e : (2 * (k : Int) * (2 * (k : Int) + 1)) = ((2 * k * (2 * k + 1) : Nat) : Int) := by simp
  rw [e]; omega

set_option maxHeartbeats 1000000 in
theorem implSine_any (t : Nat) (ht : bdW Ieee.double t (52 + oneE)) (w : World) :
    Calls Try.prog 18 #[.float .f64 t] w (RetF .f64 (sineV t) w) := by
  have HT := hid ht
  obtain ⟨f, hf⟩ : ∃ f, f = fracV t := ⟨_, rfl⟩
  have HF := hid hf
  have BF : bdW Ieee.double f 1074 := by rw [hf]; exact bdf ht
  have HS : Hid (sineV t = sineF f) := by unfold Hid sineV; rw [hf]
  clear hf ht
  cases hb : belowB f
  · cases hc : (FloatKind.f64.format.order f 4598175219545276416 == some .gt)
    · have HH := hid (fold_00 hb hc)
      have HB := hid hb
      have hb' : (FloatKind.f64.format.order f 4602678819172646912 == some .gt || FloatKind.f64.format.order f 4602678819172646912 == some .eq) = false := hb
      clear hb BF
      go_enter Try.func18, Try.ntmps18
      go_wp2_with (first | (go_at_call 17; refine (fraction_any _ HT.out _).mono ?_; rintro e w1 ⟨rfl, rfl⟩; rw [← HF.out]) | (refine wpList_fop _ rfl _ _ _ _ _ rfl rfl _ _ _ rfl rfl ?_; intro u0 n0 hv0 bv0))
      rename_i z n1 hz bz K1 hK1
      obtain ⟨u, rfl⟩ : ∃ u, u = u0 := ⟨_, rfl⟩
      go_loopw [7, 8] (fun p k wr => ∃ j n v : Nat, j ≤ 8 ∧ k = .int .i64 (8 - (j : Int)) ∧ p = .float .f64 v ∧ Hid (nz .f64 v = polyV u j) ∧ Hid (v < 2 ^ FloatKind.f64.format.width) ∧ wr = w.drewN n) (fun _ k _ => (intOf k).toNat)
      case atStart => exact ⟨0, _, _, Nat.zero_le _, rfl, rfl, by unfold Hid polyV; exact nz_num (nanB_fin fone), by unfold Hid; decide, rfl⟩
      case round =>
        obtain ⟨j, nj, v, hj, rfl, rfl, hv, bv, rfl⟩ := hrel
        by_cases hlt : j < 8
        · obtain ⟨q1, q2⟩ := prod_bd hlt
          go_wp2_with (refine wpList_fop _ rfl _ _ _ _ _ rfl rfl _ _ _ rfl rfl ?_; intro x m hx hbx)
          rename_i a na ha ba b nb hb2 bb
          go_roundw
          case rel => exact ⟨j + 1, _, x, by omega, congrArg (Value.int .i64) (by omega), rfl, poly_next hv ha hb2 hx, hbx, rfl⟩
          case measure => simp [intOf]; omega
        · obtain rfl : j = 8 := by omega
          go_wp2_with (refine wpList_fop _ rfl _ _ _ _ _ rfl rfl _ _ _ rfl rfl ?_; intro x m hx hbx)
          go_ret
          exact ⟨x, _, rfl, by rw [HS.out]; exact sine_pos HB.out HH.out hz hv0 hv hx, hbx, rfl⟩
    · have HH := hid (fold_01 hb hc rfl)
      have HB := hid hb
      have S2 := hid (bits_of_sub b_half BF)
      have hb' : (FloatKind.f64.format.order f 4602678819172646912 == some .gt || FloatKind.f64.format.order f 4602678819172646912 == some .eq) = false := hb
      clear hb BF
      go_enter Try.func18, Try.ntmps18
      go_wp2_with (first | (go_at_call 17; refine (fraction_any _ HT.out _).mono ?_; rintro e w1 ⟨rfl, rfl⟩; rw [← HF.out]) | (refine wpList_fopx _ rfl .sub _ _ _ _ rfl rfl .f64 4602678819172646912 _ _ rfl rfl S2.out ?_) | (refine wpList_fop _ rfl _ _ _ _ _ rfl rfl _ _ _ rfl rfl ?_; intro u0 n0 hv0 bv0))
      rename_i z n1 hz bz K1 hK1
      obtain ⟨u, rfl⟩ : ∃ u, u = u0 := ⟨_, rfl⟩
      go_loopw [7, 8] (fun p k wr => ∃ j n v : Nat, j ≤ 8 ∧ k = .int .i64 (8 - (j : Int)) ∧ p = .float .f64 v ∧ Hid (nz .f64 v = polyV u j) ∧ Hid (v < 2 ^ FloatKind.f64.format.width) ∧ wr = w.drewN n) (fun _ k _ => (intOf k).toNat)
      case atStart => exact ⟨0, _, _, Nat.zero_le _, rfl, rfl, by unfold Hid polyV; exact nz_num (nanB_fin fone), by unfold Hid; decide, rfl⟩
      case round =>
        obtain ⟨j, nj, v, hj, rfl, rfl, hv, bv, rfl⟩ := hrel
        by_cases hlt : j < 8
        · obtain ⟨q1, q2⟩ := prod_bd hlt
          go_wp2_with (refine wpList_fop _ rfl _ _ _ _ _ rfl rfl _ _ _ rfl rfl ?_; intro x m hx hbx)
          rename_i a na ha ba b nb hb2 bb
          go_roundw
          case rel => exact ⟨j + 1, _, x, by omega, congrArg (Value.int .i64) (by omega), rfl, poly_next hv ha hb2 hx, hbx, rfl⟩
          case measure => simp [intOf]; omega
        · obtain rfl : j = 8 := by omega
          go_wp2_with (refine wpList_fop _ rfl _ _ _ _ _ rfl rfl _ _ _ rfl rfl ?_; intro x m hx hbx)
          go_ret
          exact ⟨x, _, rfl, by rw [HS.out]; exact sine_pos HB.out HH.out hz hv0 hv hx, hbx, rfl⟩
  · cases hc : (FloatKind.f64.format.order (fop .sub .f64 f 4602678819172646912) 4598175219545276416 == some .gt)
    · have HH := hid (fold_10 hb rfl hc)
      have HB := hid hb
      have S1 := hid (bits_of_sub BF b_half)
      have hb' : (FloatKind.f64.format.order f 4602678819172646912 == some .gt || FloatKind.f64.format.order f 4602678819172646912 == some .eq) = true := hb
      clear hb BF
      go_enter Try.func18, Try.ntmps18
      go_wp2_with (first | (go_at_call 17; refine (fraction_any _ HT.out _).mono ?_; rintro e w1 ⟨rfl, rfl⟩; rw [← HF.out]) | (refine wpList_fopx _ rfl .sub _ _ _ _ rfl rfl .f64 f 4602678819172646912 _ rfl rfl S1.out ?_) | (refine wpList_fop _ rfl _ _ _ _ _ rfl rfl _ _ _ rfl rfl ?_; intro u0 n0 hv0 bv0))
      rename_i z n1 hz bz K1 hK1
      obtain ⟨u, rfl⟩ : ∃ u, u = u0 := ⟨_, rfl⟩
      go_loopw [7, 8] (fun p k wr => ∃ j n v : Nat, j ≤ 8 ∧ k = .int .i64 (8 - (j : Int)) ∧ p = .float .f64 v ∧ Hid (nz .f64 v = polyV u j) ∧ Hid (v < 2 ^ FloatKind.f64.format.width) ∧ wr = w.drewN n) (fun _ k _ => (intOf k).toNat)
      case atStart => exact ⟨0, _, _, Nat.zero_le _, rfl, rfl, by unfold Hid polyV; exact nz_num (nanB_fin fone), by unfold Hid; decide, rfl⟩
      case round =>
        obtain ⟨j, nj, v, hj, rfl, rfl, hv, bv, rfl⟩ := hrel
        by_cases hlt : j < 8
        · obtain ⟨q1, q2⟩ := prod_bd hlt
          go_wp2_with (refine wpList_fop _ rfl _ _ _ _ _ rfl rfl _ _ _ rfl rfl ?_; intro x m hx hbx)
          rename_i a na ha ba b nb hb2 bb
          go_roundw
          case rel => exact ⟨j + 1, _, x, by omega, congrArg (Value.int .i64) (by omega), rfl, poly_next hv ha hb2 hx, hbx, rfl⟩
          case measure => simp [intOf]; omega
        · obtain rfl : j = 8 := by omega
          go_wp2_with (refine wpList_fop _ rfl _ _ _ _ _ rfl rfl _ _ _ rfl rfl ?_; intro x m hx hbx)
          go_ret
          exact ⟨Op.negFloat .f64 x, _, rfl, by rw [HS.out]; exact sine_neg HB.out HH.out hz hv0 hv hx, neg_lt hbx.out, rfl⟩
    · have HH := hid (fold_11 hb rfl hc rfl)
      have HB := hid hb
      have S1 := hid (bits_of_sub BF b_half)
      have S2 := hid (bits_of_sub b_half (bd_fin (b_sub BF b_half (by omega) (by omega)).1))
      have hb' : (FloatKind.f64.format.order f 4602678819172646912 == some .gt || FloatKind.f64.format.order f 4602678819172646912 == some .eq) = true := hb
      clear hb BF
      go_enter Try.func18, Try.ntmps18
      go_wp2_with (first | (go_at_call 17; refine (fraction_any _ HT.out _).mono ?_; rintro e w1 ⟨rfl, rfl⟩; rw [← HF.out]) | (refine wpList_fopx _ rfl .sub _ _ _ _ rfl rfl .f64 f 4602678819172646912 _ rfl rfl S1.out ?_) | (refine wpList_fopx _ rfl .sub _ _ _ _ rfl rfl .f64 4602678819172646912 _ _ rfl rfl S2.out ?_) | (refine wpList_fop _ rfl _ _ _ _ _ rfl rfl _ _ _ rfl rfl ?_; intro u0 n0 hv0 bv0))
      rename_i z n1 hz bz K1 hK1
      obtain ⟨u, rfl⟩ : ∃ u, u = u0 := ⟨_, rfl⟩
      go_loopw [7, 8] (fun p k wr => ∃ j n v : Nat, j ≤ 8 ∧ k = .int .i64 (8 - (j : Int)) ∧ p = .float .f64 v ∧ Hid (nz .f64 v = polyV u j) ∧ Hid (v < 2 ^ FloatKind.f64.format.width) ∧ wr = w.drewN n) (fun _ k _ => (intOf k).toNat)
      case atStart => exact ⟨0, _, _, Nat.zero_le _, rfl, rfl, by unfold Hid polyV; exact nz_num (nanB_fin fone), by unfold Hid; decide, rfl⟩
      case round =>
        obtain ⟨j, nj, v, hj, rfl, rfl, hv, bv, rfl⟩ := hrel
        by_cases hlt : j < 8
        · obtain ⟨q1, q2⟩ := prod_bd hlt
          go_wp2_with (refine wpList_fop _ rfl _ _ _ _ _ rfl rfl _ _ _ rfl rfl ?_; intro x m hx hbx)
          rename_i a na ha ba b nb hb2 bb
          go_roundw
          case rel => exact ⟨j + 1, _, x, by omega, congrArg (Value.int .i64) (by omega), rfl, poly_next hv ha hb2 hx, hbx, rfl⟩
          case measure => simp [intOf]; omega
        · obtain rfl : j = 8 := by omega
          go_wp2_with (refine wpList_fop _ rfl _ _ _ _ _ rfl rfl _ _ _ rfl rfl ?_; intro x m hx hbx)
          go_ret
          exact ⟨Op.negFloat .f64 x, _, rfl, by rw [HS.out]; exact sine_neg HB.out HH.out hz hv0 hv hx, neg_lt hbx.out, rfl⟩

theorem big_no {t : Nat} (h : finW Ieee.double t) (hb : bigB t = false) : (FloatKind.f64.format.order t 4841369599423283200 == some .gt || FloatKind.f64.format.order t 4841369599423283200 == some .eq) = false ∧ (FloatKind.f64.format.order t 14064741636278059008 == some .lt || FloatKind.f64.format.order t 14064741636278059008 == some .eq) = false := by
  rw [big_geq h, big_leq h]
  rw [big_or, Bool.or_eq_false_iff] at hb
  exact hb
end Go.Proofs.Ytocclddnaaaohaa
