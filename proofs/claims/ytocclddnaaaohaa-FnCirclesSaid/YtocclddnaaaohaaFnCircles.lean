/- Phasors of 64ths of turns have nearly the power 1 and the angle from which they come, products and tenths agree: true at all bytes. No condition. -/
import Derived.Test.YtocclddnaaaohaaRows
import Derived.WalkKit
import Derived.ProofKit
import Derived.OpenShut
import Derived.Laws.Cover2
import Derived.Test.YtocclddnaaaohaaArg
import Derived.Test.YtocclddnaaaohaaCut
import Derived.Test.YtocclddnaaaohaaBy
import Derived.Test.YtocclddnaaaohaaCj
namespace Go.Proofs.Ytocclddnaaaohaa.fnCircles
open Go.ChangeShapes Go.WideShapes Go.ChangeAt Go.RowKit Go.Proofs.Ytocclddnaaaohaa.Fl Go.Proofs.Ytocclddnaaaohaa
open Go.ChangeMaps (open_string shut_string)
theorem own : ownKnob Try.prog.godebug = none := by kernel_rfl

set_option maxHeartbeats 4000000 in
set_option maxRecDepth 100000 in
theorem walk (w : World) (A0 : Option Addr) (l0 c0 : Nat) (V0 : Nat → Int) (_m0 : l0 ≤ maxLen) (H0 : BArg w A0 l0 V0) (A1 : Option Addr) (l1 c1 : Nat) (V1 : Nat → Int) (_m1 : l1 ≤ maxLen) (H1 : BArg w A1 l1 V1) :
    Calls Try.prog 3 #[.slice A0 l0 c0, .slice A1 l1 c1] w fun e w' => e = .returned (.bool true) ∧ Below w.heap.size w w' := by
  by_cases hl : 1048576 < l0 ∨ 1048576 < l1
  · have HL := hid hl
    clear hl
    go_enter Try.func3, Try.ntmps3
    go_wp2_with fail
    refine (long_yes A0 A1 l0 l1 c0 c1 HL.out _).mono ?_
    rintro e w1 ⟨rfl, rfl⟩
    go_wp2
    go_ret
    exact ⟨rfl, Below.refl _ _⟩
  · have h0 : l0 ≤ 1048576 := by omega
    have h1 : l1 ≤ 1048576 := by omega
    have HA := hid H0
    have HB := hid H1
    have HL0 := hid h0
    have HL1 := hid h1
    clear H0 H1 hl h0 h1
    go_enter Try.func3, Try.ntmps3
    go_wp2_with fail
    refine (long_no A0 A1 l0 l1 c0 c1 HL0.out HL1.out _).mono ?_
    rintro e w1 ⟨rfl, rfl⟩
    go_wp2_with fail
    refine (at_a A0 l0 c0 V0 _ HL0.out HA.out).mono ?_
    rintro e w1 ⟨⟨r, rfl, hr⟩, rfl⟩
    go_wp2_with fail
    refine (at_b A0 l0 c0 V0 _ HL0.out HA.out).mono ?_
    rintro e w1 ⟨⟨s, rfl, hs⟩, rfl⟩
    have hrz : (r : Int) ≤ 255 := by omega
    have hsz : (s : Int) ≤ 255 := by omega
    have P1 := ph_of ((r : Int) - 128) (by omega) (by omega) (r % 64) (by omega) (by omega)
    have P2 := ph_of ((s : Int) - 128) (by omega) (by omega) (s % 64) (by omega) (by omega)
    have P3 := ph_of ((r : Int) - 128 + ((s : Int) - 128)) (by omega) (by omega) ((r % 64 + s % 64) % 64) (by omega) (by omega)
    obtain ⟨an, aw, a6, tu, t1, wh, ga, N1⟩ := an_of r hr
    obtain ⟨pr, ps, pz, pg, W1⟩ := pw_of (r % 64) (by omega)
    obtain ⟨mr, ms, mt, mu, mt', mu', mg, mh, M1⟩ := mu_of (k := r % 64) (l := s % 64) (by omega) (by omega)
    have hax : (Int.tmod ((r : Int) - 128) 16 = 0 ∧ (gapV (PW.getD (r % 64) (0, 0)).1 0 = 0 ∨ gapV (PW.getD (r % 64) (0, 0)).1 0 = 4607182418800017408)) ∨ Int.tmod ((r : Int) - 128) 16 ≠ 0 := by
      by_cases h : r % 16 = 0
      · left
        refine ⟨by rw [Int.tmod_eq_zero_of_dvd]; omega, ?_⟩
        have := ax_all ⟨r % 64 / 16, by omega⟩
        simp only at this
        rwa [show 16 * (r % 64 / 16) = r % 64 by omega] at this
      · right
        intro h2
        have := Int.dvd_of_tmod_eq_zero h2
        omega
    generalize tW ((r : Int) - 128) = tp at P1
    generalize tW ((s : Int) - 128) = tq at P2
    generalize tW ((r : Int) - 128 + ((s : Int) - 128)) = tr at P3
    generalize (PT.getD (r % 64) (0, 0)).1 = x1 at *
    generalize (PT.getD (r % 64) (0, 0)).2 = y1 at *
    generalize (PW.getD (r % 64) (0, 0)).1 = u1 at *
    generalize (PW.getD (r % 64) (0, 0)).2 = v1 at *
    generalize (PT.getD (s % 64) (0, 0)).1 = x2 at *
    generalize (PT.getD (s % 64) (0, 0)).2 = y2 at *
    generalize (PW.getD (s % 64) (0, 0)).1 = u2 at *
    generalize (PW.getD (s % 64) (0, 0)).2 = v2 at *
    generalize (PT.getD ((r % 64 + s % 64) % 64) (0, 0)).1 = x3 at *
    generalize (PT.getD ((r % 64 + s % 64) % 64) (0, 0)).2 = y3 at *
    generalize (PW.getD ((r % 64 + s % 64) % 64) (0, 0)).1 = u3 at *
    generalize (PW.getD ((r % 64 + s % 64) % 64) (0, 0)).2 = v3 at *
    have K1 := hid P1
    have K2 := hid P2
    have K3 := hid P3
    have KN := hid N1
    have KW := hid W1
    have KM := hid M1
    have HX := hid hax
    have q1 := op_at 27 P1.q P1.qn
    have q2 := op_at 27 P2.q P2.qn
    have q3 := op_at 27 P3.q P3.qn
    clear P1 P2 P3 hax
    go_wp2_with fail
    refine (phasor_at K1.out.lt K1.out.re K1.out.im K1.out.n1 K1.out.n2 _).mono ?_
    rintro e w2 ⟨rfl, n2, rfl⟩
    go_wp2_with fail
    refine (phasor_at K2.out.lt K2.out.re K2.out.im K2.out.n1 K2.out.n2 _).mono ?_
    rintro e w3 ⟨rfl, n3, rfl⟩
    go_wp2_with fail
    refine (phasor_at K3.out.lt K3.out.re K3.out.im K3.out.n1 K3.out.n2 _).mono ?_
    rintro e w4 ⟨rfl, n4, rfl⟩
    clear q1 q2 q3
    have k1 := up_at N1.up N1.n1
    have k2 := op_at 27 N1.mu N1.n2
    have k3 := op_at 27 N1.su N1.n3
    have k4 := op_at 27 N1.ad N1.n4
    have k5 : ∀ W, (convert 27 2 (.float .f64 t1)).run Try.prog W = .ok (.int .i64 wh) W := fun W => run_convert_float_int W _ _ .f64 .i64 t1 wh rfl Try.underlying2 N1.wo
    go_wp2_with fail
    refine (angleOf_at K1.out.l1 K1.out.l2 KN.out.at_ KN.out.n0 _).mono ?_
    rintro e w5 ⟨rfl, B5⟩
    go_wp2_with fail
    have k6 := up_at W1.up W1.n2
    have k7 := W1.le
    have k8 := N1.le
    have k9 := N1.re
    have k10 := N1.lo
    have k11 := N1.hi
    clear k1 k2 k3 k4 k5 W1 N1 M1
    refine (powerOf_at K1.out.w1 K1.out.w2 KW.out.pe KW.out.n0 KW.out.dn KW.out.n1 _).mono ?_
    rintro e w6 ⟨rfl, rfl⟩
    go_wp2_with fail
    refine (gap_at KW.out.ga KW.out.n3 _).mono ?_
    rintro e w7 ⟨rfl, rfl⟩
    go_wp2_with fail
    refine (mulC_at K1.out.w1 K1.out.w2 K2.out.w1 K2.out.w2 KM.out.re KM.out.n0 KM.out.im KM.out.n1 KM.out.dr KM.out.n2 KM.out.di KM.out.n3 _).mono ?_
    rintro e w8 ⟨rfl, rfl⟩
    go_wp2_with fail
    refine (near_at KM.out.w1 KM.out.w2 K3.out.w1 K3.out.w2 KM.out.ga KM.out.n4 KM.out.gb KM.out.n5 KM.out.l1 KM.out.l2 _).mono ?_
    rintro e w9 ⟨rfl, rfl⟩
    go_wp2_with fail
    refine (gap_at KN.out.ga KN.out.n5 _).mono ?_
    rintro e w10 ⟨rfl, rfl⟩
    clear k6 k7
    have B0 := below_of_drewN B5
    have kx := up_at K1.out.w1.cv K1.out.w1.num
    rcases HX.out with ⟨hm, hg | hg⟩ | hm
    · have z0 : (FloatKind.f64.format.order 0 0 != some .eq) = false := by decide +kernel
      go_wp2_with fail
      refine (gap_at hg (by decide +kernel) _).mono ?_
      rintro e w20 ⟨rfl, rfl⟩
      go_wp2_with fail
      refine (at_x A1 l1 c1 V1 _ HL1.out (HB.out.below B0)).mono ?_
      rintro e w11 ⟨⟨i, rfl, hi⟩, rfl⟩
      have iz : (i : Int) ≤ 199 := by omega
      obtain ⟨ex, exn⟩ := xw_of hi
      obtain ⟨x, hx⟩ : ∃ x, W32 (8 * (i + 1)) = x := ⟨_, rfl⟩
      rw [hx] at ex exn
      have e1 := op_at 28 ex exn
      clear ex exn
      go_wp2_with fail
      refine (at_y A1 l1 c1 V1 _ HL1.out (HB.out.below B0)).mono ?_
      rintro e w12 ⟨⟨j, rfl, hj⟩, rfl⟩
      obtain ⟨z, ta, tb, tc, T⟩ := tn_of hi hj
      obtain ⟨y, hy⟩ : ∃ y, W32 (8 * (j + 1)) = y := ⟨_, rfl⟩
      obtain ⟨ey, eyn⟩ := xw_of hj
      rw [hy] at ey eyn
      rw [hx, hy] at T
      have KT := hid T
      have jz : (j : Int) ≤ 199 := by omega
      have e2 := op_at 28 ey eyn
      have e3 := op_at 28 T.mz T.zn
      obtain ⟨ra1, ra2⟩ := T.ra
      obtain ⟨rb1, rb2⟩ := T.rb
      obtain ⟨rc1, rc2⟩ := T.rc
      have u1' := T.u1
      have u2' := T.u2
      clear ey eyn T hi hj hx hy
      go_wp2_with fail
      refine (tens_at' KT.out.xl KT.out.tx KT.out.bx _).mono ?_
      rintro e w13 ⟨rfl, n13, rfl⟩
      go_wp2_with fail
      refine (tens_at' KT.out.yl KT.out.ty KT.out.by_ _).mono ?_
      rintro e w14 ⟨rfl, n14, rfl⟩
      go_wp2_with fail
      refine (tens_at' KT.out.zl KT.out.tz KT.out.bz _).mono ?_
      rintro e w15 ⟨rfl, n15, rfl⟩
      go_wp2_with fail
      refine (tens_at' (by decide) one_tens.1 one_tens.2 _).mono ?_
      rintro e w16 ⟨rfl, n16, rfl⟩
      clear e1 e2 e3
      go_wp2_with fail
      refine (angleOf_at (by decide) (by decide) quart.1 quart.2.1 _).mono ?_
      rintro e w17 ⟨rfl, B17⟩
      go_wp2_with fail
      refine (sameNumber_at _ _ (by decide) (by decide) quart.2.2 _).mono ?_
      rintro e w18 ⟨rfl, rfl⟩
      go_wp2
      go_ret
      exact ⟨rfl, below_trans (below_drewN B0 _) B17⟩
    · have z1 : (FloatKind.f64.format.order 4607182418800017408 0 != some .eq) = true := by decide +kernel
      have z2 : (FloatKind.f64.format.order 4607182418800017408 4607182418800017408 != some .eq) = false := by decide +kernel
      go_wp2_with fail
      refine (gap_at hg (by decide +kernel) _).mono ?_
      rintro e w20 ⟨rfl, rfl⟩
      go_wp2_with fail
      refine (gap_at hg (by decide +kernel) _).mono ?_
      rintro e w21 ⟨rfl, rfl⟩
      go_wp2_with fail
      refine (at_x A1 l1 c1 V1 _ HL1.out (HB.out.below B0)).mono ?_
      rintro e w11 ⟨⟨i, rfl, hi⟩, rfl⟩
      have iz : (i : Int) ≤ 199 := by omega
      obtain ⟨ex, exn⟩ := xw_of hi
      obtain ⟨x, hx⟩ : ∃ x, W32 (8 * (i + 1)) = x := ⟨_, rfl⟩
      rw [hx] at ex exn
      have e1 := op_at 28 ex exn
      clear ex exn
      go_wp2_with fail
      refine (at_y A1 l1 c1 V1 _ HL1.out (HB.out.below B0)).mono ?_
      rintro e w12 ⟨⟨j, rfl, hj⟩, rfl⟩
      obtain ⟨z, ta, tb, tc, T⟩ := tn_of hi hj
      obtain ⟨y, hy⟩ : ∃ y, W32 (8 * (j + 1)) = y := ⟨_, rfl⟩
      obtain ⟨ey, eyn⟩ := xw_of hj
      rw [hy] at ey eyn
      rw [hx, hy] at T
      have KT := hid T
      have jz : (j : Int) ≤ 199 := by omega
      have e2 := op_at 28 ey eyn
      have e3 := op_at 28 T.mz T.zn
      obtain ⟨ra1, ra2⟩ := T.ra
      obtain ⟨rb1, rb2⟩ := T.rb
      obtain ⟨rc1, rc2⟩ := T.rc
      have u1' := T.u1
      have u2' := T.u2
      clear ey eyn T hi hj hx hy
      go_wp2_with fail
      refine (tens_at' KT.out.xl KT.out.tx KT.out.bx _).mono ?_
      rintro e w13 ⟨rfl, n13, rfl⟩
      go_wp2_with fail
      refine (tens_at' KT.out.yl KT.out.ty KT.out.by_ _).mono ?_
      rintro e w14 ⟨rfl, n14, rfl⟩
      go_wp2_with fail
      refine (tens_at' KT.out.zl KT.out.tz KT.out.bz _).mono ?_
      rintro e w15 ⟨rfl, n15, rfl⟩
      go_wp2_with fail
      refine (tens_at' (by decide) one_tens.1 one_tens.2 _).mono ?_
      rintro e w16 ⟨rfl, n16, rfl⟩
      clear e1 e2 e3
      go_wp2_with fail
      refine (angleOf_at (by decide) (by decide) quart.1 quart.2.1 _).mono ?_
      rintro e w17 ⟨rfl, B17⟩
      go_wp2_with fail
      refine (sameNumber_at _ _ (by decide) (by decide) quart.2.2 _).mono ?_
      rintro e w18 ⟨rfl, rfl⟩
      go_wp2
      go_ret
      exact ⟨rfl, below_trans (below_drewN B0 _) B17⟩
    · have hm2 : (Int.tmod ((r : Int) - 128) 16 == 0) = false := by simpa using hm
      clear kx
      go_wp2_with fail
      refine (at_x A1 l1 c1 V1 _ HL1.out (HB.out.below B0)).mono ?_
      rintro e w11 ⟨⟨i, rfl, hi⟩, rfl⟩
      have iz : (i : Int) ≤ 199 := by omega
      obtain ⟨ex, exn⟩ := xw_of hi
      obtain ⟨x, hx⟩ : ∃ x, W32 (8 * (i + 1)) = x := ⟨_, rfl⟩
      rw [hx] at ex exn
      have e1 := op_at 28 ex exn
      clear ex exn
      go_wp2_with fail
      refine (at_y A1 l1 c1 V1 _ HL1.out (HB.out.below B0)).mono ?_
      rintro e w12 ⟨⟨j, rfl, hj⟩, rfl⟩
      obtain ⟨z, ta, tb, tc, T⟩ := tn_of hi hj
      obtain ⟨y, hy⟩ : ∃ y, W32 (8 * (j + 1)) = y := ⟨_, rfl⟩
      obtain ⟨ey, eyn⟩ := xw_of hj
      rw [hy] at ey eyn
      rw [hx, hy] at T
      have KT := hid T
      have jz : (j : Int) ≤ 199 := by omega
      have e2 := op_at 28 ey eyn
      have e3 := op_at 28 T.mz T.zn
      obtain ⟨ra1, ra2⟩ := T.ra
      obtain ⟨rb1, rb2⟩ := T.rb
      obtain ⟨rc1, rc2⟩ := T.rc
      have u1' := T.u1
      have u2' := T.u2
      clear ey eyn T hi hj hx hy
      go_wp2_with fail
      refine (tens_at' KT.out.xl KT.out.tx KT.out.bx _).mono ?_
      rintro e w13 ⟨rfl, n13, rfl⟩
      go_wp2_with fail
      refine (tens_at' KT.out.yl KT.out.ty KT.out.by_ _).mono ?_
      rintro e w14 ⟨rfl, n14, rfl⟩
      go_wp2_with fail
      refine (tens_at' KT.out.zl KT.out.tz KT.out.bz _).mono ?_
      rintro e w15 ⟨rfl, n15, rfl⟩
      go_wp2_with fail
      refine (tens_at' (by decide) one_tens.1 one_tens.2 _).mono ?_
      rintro e w16 ⟨rfl, n16, rfl⟩
      clear e1 e2 e3
      go_wp2_with fail
      refine (angleOf_at (by decide) (by decide) quart.1 quart.2.1 _).mono ?_
      rintro e w17 ⟨rfl, B17⟩
      go_wp2_with fail
      refine (sameNumber_at _ _ (by decide) (by decide) quart.2.2 _).mono ?_
      rintro e w18 ⟨rfl, rfl⟩
      go_wp2
      go_ret
      exact ⟨rfl, below_trans (below_drewN B0 _) B17⟩

theorem facts : joinedFacts Try.prog 3 Try.f3 Rows.fnCirclesSpec Rows.fnCirclesRow = true := by
  unfold joinedFacts
  rw [cutMake, cutLifts, cutEnter, cutRowed, cutMaps]
  kernel_rfl
set_option maxRecDepth 100000 in
theorem lifted (os : Os) (started : os.Started) (H : Type) (enc : TypeId × Value → H) :
    ReturnsInHanded {} Try.checked os 3 .any (Rows.fnCirclesSpec.pre6 enc Try.prog Try.f3 Rows.fnCirclesRow.domain false) (Rows.fnCirclesSpec.post enc Try.prog Try.f3 false true false false) := by
  refine returnsInHanded_of_change (C := Try.checked) own started (by kernel_rfl) Try.func3
    (ChangeSpec.witness6 (enc := enc) (C := Try.checked) false ⟨#[], #[.slice none 0 0, .slice none 0 0], []⟩ 8 (by kernel_rfl) (by kernel_rfl) (by kernel_rfl) (by kernel_rfl)) ?_
  intro W base args ds gs before hval0 hW hcnd _
  have hval : ∀ (j : Nat) t v, Try.f3.params[j]? = some t → args[j]? = some v → Value.okWide Try.prog W .any base t v := hval0
  have hW' := hW
  obtain ⟨p, q, hA0, hV, rfl, hfz, hnd⟩ := hW
  have hA : DataW.TrodAll enc Try.prog W 0 (fun _ => true) true Try.f3.params.toList args.toList ds p := hA0
  rw [Try.params3] at hA hval
  obtain ⟨v0, vs0, d0, ds0, p0, q0, hargs, rfl, rfl, h0, r0⟩ := trodAll_cons hA
  obtain ⟨v1, vs1, d1, ds1, p1, q1, rfl, rfl, rfl, h1, r1⟩ := trodAll_cons r0
  obtain ⟨rfl, rfl, rfl⟩ := trodAll_nil r1
  obtain rfl : args = #[v0, v1] := by cases args; simp_all
  obtain ⟨rfl, rfl⟩ := trodVars_none hV
  have k0 := h0
  obtain ⟨A0, l0, c0, V0, rfl, m0, H0⟩ := open_u8s Try.underlying22 Try.underlying5 (by kernel_rfl) (hval 0 22 v0 rfl rfl) h0
  have k1 := h1
  obtain ⟨A1, l1, c1, V1, rfl, m1, H1⟩ := open_u8s Try.underlying22 Try.underlying5 (by kernel_rfl) (hval 1 22 v1 rfl rfl) h1
  clear hA0 hval0
  refine (walk W A0 l0 c0 V0 m0 H0 A1 l1 c1 V1 m1 H1).mono fun e W' ⟨he, hg⟩ => ?_
  subst he
  exact ⟨_, rfl, post_of_below2 (pv := []) hW' (fun _ _ _ => (trodAll_cons_mk (shut_bool Try.underlying4 _) trodAll_mk0)) (trodAll_cons_mk (Below.trod cutRowed (by kernel_rfl) (of_decide_eq_true (by kernel_rfl)) k0 hg (fun x hx => hW'.lt x (by simp [hx]))) (trodAll_cons_mk (Below.trod cutRowed (by kernel_rfl) (of_decide_eq_true (by kernel_rfl)) k1 hg (fun x hx => hW'.lt x (by simp [hx]))) trodAll_mk0)) (fun _ _ => rfl) hg⟩

theorem over : Rows.fnCirclesRow.holds Try.pinned (OpenSpec.ofChange Rows.fnCirclesSpec) :=
  OpenClaim.holds_of_wide 3 Try.f3 rfl rfl rfl rfl rfl rfl rfl ⟨rfl, rfl, rfl, rfl, rfl⟩ rfl rfl rfl rfl rfl (by kernel_rfl) Try.func3 facts
    (of_decide_eq_true (by kernel_rfl)) (by unfold Func.isWrapper; rw [if_neg (of_decide_eq_false (by kernel_rfl))]; exact ⟨rfl, rfl⟩)
    (fun os started H enc _ => lifted os started H enc)

theorem holds : Rows.FnCirclesSaid := over
#print axioms holds
end Go.Proofs.Ytocclddnaaaohaa.fnCircles
