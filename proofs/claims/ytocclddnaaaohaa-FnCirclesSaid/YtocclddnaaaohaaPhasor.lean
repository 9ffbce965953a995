/- The walks of PhasorOf, of the program and of the reference. No condition. -/
import Derived.Test.YtocclddnaaaohaaTurns
import Derived.Test.YtocclddnaaaohaaFrom
namespace Go.Proofs.Ytocclddnaaaohaa
open Go.RowKit Go.Proofs.Ytocclddnaaaohaa.Fl

theorem nz_c1 : nz .f32 1065353216 = 1065353216 := by decide +kernel
theorem nz_c0 : nz .f32 0 = 0 := by decide +kernel
def phRe (q : Nat) (C S : Nat) : Nat := if q = 1 then fcv .f64 .f32 (fop .sub .f64 0 S) else if q = 2 then fcv .f64 .f32 (fop .sub .f64 0 C) else if q = 3 then fcv .f64 .f32 S else fcv .f64 .f32 C
def phIm (q : Nat) (C S : Nat) : Nat := if q = 1 then fcv .f64 .f32 C else if q = 2 then fcv .f64 .f32 (fop .sub .f64 0 S) else if q = 3 then fcv .f64 .f32 (fop .sub .f64 0 C) else fcv .f64 .f32 S
/-- The rest of the turns behind quarters; its two sines. -/
def phF (t : Nat) : Nat := qIter (fracV t) (qCount (fracV t))
def phC (t : Nat) : Nat := sineV (fop .sub .f64 4598175219545276416 (phF t))
def phS (t : Nat) : Nat := sineV (phF t)
def phasorRe (t : Nat) : Nat := if !finB .f64 t then cnan .f32 else if bigB t then 1065353216 else phRe (qCount (fracV t)) (phC t) (phS t)
def phasorIm (t : Nat) : Nat := if !finB .f64 t then cnan .f32 else if bigB t then 0 else phIm (qCount (fracV t)) (phC t) (phS t)
theorem ph_nan {t : Nat} (h : finB .f64 t = false) : phasorRe t = cnan .f32 ∧ phasorIm t = cnan .f32 := by unfold phasorRe phasorIm; rw [h]; exact ⟨rfl, rfl⟩
theorem ph_big {t : Nat} (h : finB .f64 t = true) (hb : bigB t = true) : phasorRe t = 1065353216 ∧ phasorIm t = 0 := by unfold phasorRe phasorIm; rw [h, hb]; exact ⟨rfl, rfl⟩
theorem ph_at {t j C S : Nat} (h : finB .f64 t = true) (hb : bigB t = false) (hq : qCount (fracV t) = j) (hC : sineV (fop .sub .f64 4598175219545276416 (qIter (fracV t) j)) = C) (hS : sineV (qIter (fracV t) j) = S) : phasorRe t = phRe j C S ∧ phasorIm t = phIm j C S := by
  unfold phasorRe phasorIm phC phS phF; rw [h, hb, hq, hC, hS]; exact ⟨rfl, rfl⟩
theorem cv_end {v E r : Nat} (hv : Hid (nz .f64 v = E)) (hr : Hid (nz .f32 r = fcv .f64 .f32 v)) : nz .f32 r = fcv .f64 .f32 E := by
  rw [hr.out, ← fcv_nz v (by decide), hv.out]
theorem cv_end0 {v x E r : Nat} (hv : Hid (nz .f64 v = E)) (hx : Hid (nz .f64 x = fop .sub .f64 0 v)) (hr : Hid (nz .f32 r = fcv .f64 .f32 x)) : nz .f32 r = fcv .f64 .f32 (fop .sub .f64 0 E) := by
  rw [hr.out, ← fcv_nz x (by decide), hx.out, ← fop_nz_right .sub .f64 0 v, hv.out]
theorem all_succ {f j : Nat} (h : ∀ i, i < j → geqQ (qIter f i) = true) (hj : geqQ (qIter f j) = true) : ∀ i, i < j + 1 → geqQ (qIter f i) = true := fun i hi => by
  by_cases e : i = j
  · rw [e]; exact hj
  · exact h i (by omega)
theorem five {j : Nat} (h : j ≤ 4) : j = 0 ∨ j = 1 ∨ j = 2 ∨ j = 3 ∨ j = 4 := by omega
theorem bdq {f j : Nat} (h : leftQ f j) : bdW Ieee.double (qIter f j) (52 + oneE) := bdW_mono (leftQ_bd h) (by omega)
theorem bdd {f j : Nat} (h : leftQ f j) : bdW Ieee.double (fop .sub .f64 4598175219545276416 (qIter f j)) 1075 := bdW_mono (b_sub b_quart (show bdW Ieee.double (qIter f j) 1074 from leftQ_bd h) (by omega) (by omega)) (by omega)
theorem bdd2 {f j : Nat} (h : leftQ f j) : bdW Ieee.double (fop .sub .f64 4598175219545276416 (qIter f j)) (52 + oneE) := bdW_mono (bdd h) (by decide)
theorem bd_step {f j : Nat} (h : leftQ f j) : floatBits .sub .f64 (qIter f j) 4598175219545276416 = some (qIter f (j + 1)) := bits_of_sub (leftQ_bd h) b_quart
theorem bd_last {f j : Nat} (h : leftQ f j) : floatBits .sub .f64 4598175219545276416 (qIter f j) = some (fop .sub .f64 4598175219545276416 (qIter f j)) := bits_of_sub b_quart (leftQ_bd h)
theorem small_q {f j : Nat} (h : leftQ f j) : bigB (qIter f j) = false := small_of_bd (leftQ_bd h) (by decide)
theorem small_d {f j : Nat} (h : leftQ f j) : bigB (fop .sub .f64 4598175219545276416 (qIter f j)) = false := small_of_bd (bdd h) (by decide)

set_option maxHeartbeats 2000000 in
theorem implPhasor_any (t : Nat) (ht : t < 2 ^ 64) (w : World) :
    Calls Try.prog 6 #[.float .f64 t] w (RetC (phasorRe t) (phasorIm t) w) := by
  have HT := hid ht
  clear ht
  cases hf : finB .f64 t
  · have HP := hid (ph_nan hf)
    have HF := hid hf
    clear hf
    go_enter Try.func6, Try.ntmps6
    go_wp2_with (first | (go_at_call 14; refine (isFinite_any _ _).mono ?_; rintro e w1 ⟨rfl, n1, rfl⟩; rw [HF.out]) | (go_at_call 15; refine (nan_any _).mono ?_; rintro e w1 ⟨rfl, rfl⟩) | (refine wpList_fcv _ rfl _ _ _ rfl .f64 .f32 9221120237041090561 rfl (by decide) rfl Try.underlying28 (narrows_nan nan_word) (by decide) ?_; intro r m hr hc))
    go_ret
    have hn : nz .f32 r = cnan .f32 := by rw [hr.out]; decide +kernel
    exact ⟨r, r, _, rfl, by rw [HP.out.1]; exact hn, by rw [HP.out.2]; exact hn, hc, hc, rfl⟩
  cases hb : bigB t
  · have hw : finW Ieee.double t := of_decide_eq_true hf
    have BD := bd_of_small hw hb
    have HBD0 := hid BD
    have BA := big_abs hw
    rw [hb] at BA
    have HFT := hid hf
    have HBT := hid hb
    obtain ⟨f0, hf0⟩ : ∃ f0, fracV t = f0 := ⟨_, rfl⟩
    have HL0 : Hid (leftQ f0 0) := by rw [← hf0]; exact leftQ_zero BD
    have HF0 := hid hf0
    clear hf hb hw BD hf0
    go_enter Try.func6, Try.ntmps6
    go_wp2_with (first | (go_at_call 14; refine (isFinite_any _ _).mono ?_; rintro e w1 ⟨rfl, n1, rfl⟩; rw [HFT.out]) | (go_at_call 16; refine (abs_any _ HT.out _).mono ?_; rintro e w1 ⟨rfl, rfl⟩) | (go_at_call 17; refine (fraction_any _ HBD0.out _).mono ?_; rintro e w1 ⟨rfl, rfl⟩; rw [HF0.out]))
    clear BA
    go_loopw [4, 5] (fun p q wr => ∃ j n : Nat, j ≤ 4 ∧ q = .int .i64 j ∧ p = .float .f64 (qIter f0 j) ∧ Hid (leftQ f0 j) ∧ Hid (∀ i, i < j → geqQ (qIter f0 i) = true) ∧ wr = w.drewN n) (fun _ q _ => (4 - intOf q).toNat)
    case atStart => exact ⟨0, _, Nat.zero_le _, rfl, rfl, HL0, fun i hi => absurd hi (Nat.not_lt_zero _), rfl⟩
    case round =>
      obtain ⟨j, nj, hj, rfl, rfl, hleft, hall, rfl⟩ := hrel
      cases hg : geqQ (qIter f0 j)
      · have HR := hid (ph_at HFT.out HBT.out (show qCount (fracV t) = j by rw [HF0.out]; exact qCount_of hj hall.out hg) rfl rfl)
        rw [HF0.out] at HR
        have HL := hid (bd_last hleft.out)
        have HBD := hid (bdd2 hleft.out)
        have HBQ := hid (bdq hleft.out)
        have hg' : (FloatKind.f64.format.order (qIter f0 j) 4598175219545276416 == some .gt || FloatKind.f64.format.order (qIter f0 j) 4598175219545276416 == some .eq) = false := hg
        clear hg hleft hall
        generalize qIter f0 j = g at *
        generalize fop .sub .f64 4598175219545276416 g = dq at *
        rcases five hj with rfl | rfl | rfl | rfl | rfl
        · go_wp2_with (refine wpList_fopx _ rfl .sub _ _ _ _ rfl rfl .f64 4598175219545276416 g dq rfl rfl HL.out ?_)
          refine (implSine_any dq HBD.out _).mono ?_
          rintro e w1 ⟨vc, nc, rfl, hvc, bvc, rfl⟩
          go_wp2_with fail
          refine (implSine_any g HBQ.out _).mono ?_
          rintro e w1 ⟨vs, ns, rfl, hvs, bvs, rfl⟩
          go_wp2_with (first | (refine wpList_fcv _ rfl _ _ _ rfl .f64 .f32 vc rfl (by decide) rfl Try.underlying28 (sine_narrows HBD.out hvc.out) bvc.out ?_; intro rc mc hrc hcc) | (refine wpList_fcv _ rfl _ _ _ rfl .f64 .f32 vs rfl (by decide) rfl Try.underlying28 (sine_narrows HBQ.out hvs.out) bvs.out ?_; intro rs ms hrs hcs) | go_in)
          go_ret
          exact ⟨rc, rs, _, rfl, by rw [HR.out.1]; exact cv_end hvc hrc, by rw [HR.out.2]; exact cv_end hvs hrs, hcc, hcs, rfl⟩
        · go_wp2_with (refine wpList_fopx _ rfl .sub _ _ _ _ rfl rfl .f64 4598175219545276416 g dq rfl rfl HL.out ?_)
          refine (implSine_any dq HBD.out _).mono ?_
          rintro e w1 ⟨vc, nc, rfl, hvc, bvc, rfl⟩
          go_wp2_with fail
          refine (implSine_any g HBQ.out _).mono ?_
          rintro e w1 ⟨vs, ns, rfl, hvs, bvs, rfl⟩
          go_wp2_with (first | (refine wpList_fop _ rfl .sub _ _ _ _ rfl rfl .f64 0 vs rfl rfl ?_; intro xs ks hxs bxs) | (refine wpList_fcv _ rfl _ _ _ rfl .f64 .f32 xs rfl (by decide) rfl Try.underlying28 (sine_neg_narrows HBQ.out hvs.out hxs.out) bxs.out ?_; intro rs ms hrs hcs) | (refine wpList_fcv _ rfl _ _ _ rfl .f64 .f32 vc rfl (by decide) rfl Try.underlying28 (sine_narrows HBD.out hvc.out) bvc.out ?_; intro rc mc hrc hcc) | go_in)
          go_ret
          exact ⟨rs, rc, _, rfl, by rw [HR.out.1]; exact cv_end0 hvs hxs hrs, by rw [HR.out.2]; exact cv_end hvc hrc, hcs, hcc, rfl⟩
        · go_wp2_with (refine wpList_fopx _ rfl .sub _ _ _ _ rfl rfl .f64 4598175219545276416 g dq rfl rfl HL.out ?_)
          refine (implSine_any dq HBD.out _).mono ?_
          rintro e w1 ⟨vc, nc, rfl, hvc, bvc, rfl⟩
          go_wp2_with fail
          refine (implSine_any g HBQ.out _).mono ?_
          rintro e w1 ⟨vs, ns, rfl, hvs, bvs, rfl⟩
          go_wp2_with (first | (refine wpList_fop _ rfl .sub _ _ _ _ rfl rfl .f64 0 vs rfl rfl ?_; intro xs ks hxs bxs) | (refine wpList_fop _ rfl .sub _ _ _ _ rfl rfl .f64 0 vc rfl rfl ?_; intro xc kc hxc bxc) | (refine wpList_fcv _ rfl _ _ _ rfl .f64 .f32 xs rfl (by decide) rfl Try.underlying28 (sine_neg_narrows HBQ.out hvs.out hxs.out) bxs.out ?_; intro rs ms hrs hcs) | (refine wpList_fcv _ rfl _ _ _ rfl .f64 .f32 xc rfl (by decide) rfl Try.underlying28 (sine_neg_narrows HBD.out hvc.out hxc.out) bxc.out ?_; intro rc mc hrc hcc) | go_in)
          go_ret
          exact ⟨rc, rs, _, rfl, by rw [HR.out.1]; exact cv_end0 hvc hxc hrc, by rw [HR.out.2]; exact cv_end0 hvs hxs hrs, hcc, hcs, rfl⟩
        · go_wp2_with (refine wpList_fopx _ rfl .sub _ _ _ _ rfl rfl .f64 4598175219545276416 g dq rfl rfl HL.out ?_)
          refine (implSine_any dq HBD.out _).mono ?_
          rintro e w1 ⟨vc, nc, rfl, hvc, bvc, rfl⟩
          go_wp2_with fail
          refine (implSine_any g HBQ.out _).mono ?_
          rintro e w1 ⟨vs, ns, rfl, hvs, bvs, rfl⟩
          go_wp2_with (first | (refine wpList_fop _ rfl .sub _ _ _ _ rfl rfl .f64 0 vc rfl rfl ?_; intro xc kc hxc bxc) | (refine wpList_fcv _ rfl _ _ _ rfl .f64 .f32 vs rfl (by decide) rfl Try.underlying28 (sine_narrows HBQ.out hvs.out) bvs.out ?_; intro rs ms hrs hcs) | (refine wpList_fcv _ rfl _ _ _ rfl .f64 .f32 xc rfl (by decide) rfl Try.underlying28 (sine_neg_narrows HBD.out hvc.out hxc.out) bxc.out ?_; intro rc mc hrc hcc) | go_in)
          go_ret
          exact ⟨rs, rc, _, rfl, by rw [HR.out.1]; exact cv_end hvs hrs, by rw [HR.out.2]; exact cv_end0 hvc hxc hrc, hcs, hcc, rfl⟩
        · go_wp2_with (refine wpList_fopx _ rfl .sub _ _ _ _ rfl rfl .f64 4598175219545276416 g dq rfl rfl HL.out ?_)
          refine (implSine_any dq HBD.out _).mono ?_
          rintro e w1 ⟨vc, nc, rfl, hvc, bvc, rfl⟩
          go_wp2_with fail
          refine (implSine_any g HBQ.out _).mono ?_
          rintro e w1 ⟨vs, ns, rfl, hvs, bvs, rfl⟩
          go_wp2_with (first | (refine wpList_fcv _ rfl _ _ _ rfl .f64 .f32 vc rfl (by decide) rfl Try.underlying28 (sine_narrows HBD.out hvc.out) bvc.out ?_; intro rc mc hrc hcc) | (refine wpList_fcv _ rfl _ _ _ rfl .f64 .f32 vs rfl (by decide) rfl Try.underlying28 (sine_narrows HBQ.out hvs.out) bvs.out ?_; intro rs ms hrs hcs) | go_in)
          go_ret
          exact ⟨rc, rs, _, rfl, by rw [HR.out.1]; exact cv_end hvc hrc, by rw [HR.out.2]; exact cv_end hvs hrs, hcc, hcs, rfl⟩
      · obtain ⟨hlt, hnext⟩ := leftQ_succ hj hleft.out hg
        have HN := hid hnext
        have HA := hid (all_succ hall.out hg)
        have HST := hid (bd_step hleft.out)
        have hg' : (FloatKind.f64.format.order (qIter f0 j) 4598175219545276416 == some .gt || FloatKind.f64.format.order (qIter f0 j) 4598175219545276416 == some .eq) = true := hg
        clear hg hleft hall hnext
        obtain ⟨g2, hg2⟩ : ∃ g2, g2 = qIter f0 (j + 1) := ⟨_, rfl⟩
        rw [← hg2] at HST
        have HG2 := hid hg2
        clear hg2
        generalize qIter f0 j = g at *
        go_wp2_with (refine wpList_fopx _ rfl .sub _ _ _ _ rfl rfl .f64 g 4598175219545276416 g2 rfl rfl HST.out ?_)
        go_roundw
        case rel => exact ⟨j + 1, _, by omega, by go_num, by rw [HG2.out], HN, HA, rfl⟩
        case measure => simp [intOf]; omega
  · have HP := hid (ph_big hf hb)
    have hw : finW Ieee.double t := of_decide_eq_true hf
    have BA := big_abs hw
    rw [hb] at BA
    have HFT := hid hf
    clear hf hb hw
    go_enter Try.func6, Try.ntmps6
    go_wp2_with (first | (go_at_call 14; refine (isFinite_any _ _).mono ?_; rintro e w1 ⟨rfl, n1, rfl⟩; rw [HFT.out]) | (go_at_call 16; refine (abs_any _ HT.out _).mono ?_; rintro e w1 ⟨rfl, rfl⟩))
    go_ret
    exact ⟨1065353216, 0, _, rfl, by rw [HP.out.1]; exact nz_c1, by rw [HP.out.2]; exact nz_c0, hid32 (by decide), hid32 (by decide), rfl⟩

end Go.Proofs.Ytocclddnaaaohaa
