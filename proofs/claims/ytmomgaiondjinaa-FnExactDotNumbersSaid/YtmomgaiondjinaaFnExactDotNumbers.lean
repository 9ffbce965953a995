/- The program's DotNumbers and the reference's agree at every two lists. No condition. -/
import Derived.Test.YtmomgaiondjinaaRows
import Derived.WalkKit
import Derived.ProofKit
import Derived.OpenShut
import Derived.Laws.Cover2
import Derived.Test.YtmomgaiondjinaaArg
import Derived.Test.YtmomgaiondjinaaCut
import Derived.Test.YtmomgaiondjinaaSum
namespace Go.Proofs.Ytmomgaiondjinaa.fnExactDotNumbers
open Go.ChangeShapes Go.WideShapes Go.ChangeAt Go.RowKit Go.Proofs.Ytmomgaiondjinaa.Fl Go.Proofs.Ytmomgaiondjinaa
open Go.ChangeMaps (open_string shut_string)
theorem own : ownKnob Try.prog.godebug = none := by kernel_rfl

set_option maxRecDepth 100000 in
theorem walk (w : World) (A : Option Addr) (la ca : Nat) (V : Nat → Nat) (_hma : la ≤ maxLen) (hA : FArg w A la V) (B : Option Addr) (lb cb : Nat) (U : Nat → Nat) (_hmb : lb ≤ maxLen) (hB : FArg w B lb U) :
    Calls Try.prog 3 #[.slice A la ca, .slice B lb cb] w fun e w' => e = .returned (.bool true) ∧ Below w.heap.size w w' := by
  by_cases hl : 1048576 < la ∨ 1048576 < lb
  · by_cases h1 : 1048576 < la
    · go_enter Try.func3, Try.ntmps3
      go_wp2
      go_ret
      exact ⟨rfl, Below.refl _ _⟩
    · have h2 : 1048576 < lb := by omega
      go_enter Try.func3, Try.ntmps3
      go_wp2
      go_ret
      exact ⟨rfl, Below.refl _ _⟩
  · have hl1 : ¬ 1048576 < la := by omega
    have hl2 : ¬ 1048576 < lb := by omega
    clear hl
    have HA := hid hA
    have HB := hid hB
    clear hA hB
    by_cases hyes : la ≤ 256 ∧ la = lb
    · obtain ⟨hyes, rfl⟩ := hyes
      go_enter Try.func3, Try.ntmps3
      go_wp2_with fail
      refine (toF_any A la ca V _ (by omega) HA.out).mono ?_
      rintro e0 w0 ⟨g1, rfl, lg1, bg1, Rg1, B0⟩
      have Z0 := B0
      have Ag1 := Rg1.arg bg1
      have Og1 := Rg1.own lg1 bg1
      clear Rg1
      go_wp2_with fail
      refine (toF_any B la cb U _ (by omega) (HB.out.below Z0)).mono ?_
      rintro e1 w1 ⟨g2, rfl, lg2, bg2, Rg2, B1⟩
      replace Ag1 := Ag1.below B1
      replace Og1 := Og1.below B1
      have Z1 := below_trans Z0 B1
      have Ag2 := Rg2.arg bg2
      have Og2 := Rg2.own lg2 bg2
      clear Rg2
      go_wp2_with fail
      refine (specDotN_yes _ _ la la la V U _ hyes Ag1 Ag2).mono ?_
      rintro e w' ⟨x, n, rfl, hx, bx, rfl⟩
      go_wp2_with fail
      refine (toF_any A la ca V _ (by omega) ((HA.out.below Z1).drewN _)).mono ?_
      rintro e2 w2 ⟨g3, rfl, lg3, bg3, Rg3, B2⟩
      replace Ag1 := Ag1.below (below_of_drewN B2)
      replace Og1 := Og1.below (below_of_drewN B2)
      replace Ag2 := Ag2.below (below_of_drewN B2)
      replace Og2 := Og2.below (below_of_drewN B2)
      have Z2 := below_trans Z1 (below_of_drewN B2)
      have Ag3 := Rg3.arg bg3
      have Og3 := Rg3.own lg3 bg3
      clear Rg3
      go_wp2_with fail
      refine (toF_any B la cb U _ (by omega) (HB.out.below Z2)).mono ?_
      rintro e3 w3 ⟨g4, rfl, lg4, bg4, Rg4, B3⟩
      replace Ag1 := Ag1.below B3
      replace Og1 := Og1.below B3
      replace Ag2 := Ag2.below B3
      replace Og2 := Og2.below B3
      replace Ag3 := Ag3.below B3
      replace Og3 := Og3.below B3
      have Z3 := below_trans Z2 B3
      have Ag4 := Rg4.arg bg4
      have Og4 := Rg4.own lg4 bg4
      clear Rg4
      go_wp2_with fail
      refine (implDotN_yes _ _ la la la V U _ hyes Ag3 Ag4).mono ?_
      rintro e w' ⟨y, m, rfl, hy, bY, rfl⟩
      go_wp2_with (first | (refine wpList_fcv _ rfl _ _ _ rfl _ _ y rfl (by decide) rfl Try.underlying28 (narrows_up _) bY.out ?_; intro v1 n1 h1 c1) | (refine wpList_fcv _ rfl _ _ _ rfl _ _ x rfl (by decide) rfl Try.underlying28 (narrows_up _) bx.out ?_; intro v2 n2 h3 c2) | (go_at_call 22; refine (sameFloat_any v1 v2 (same_of hy hx h1 h3) _).mono ?_; rintro e w' ⟨rfl, n5, rfl⟩))
      go_wp2_with fail
      refine (toF_any A la ca V _ (by omega) ((HA.out.below Z3).drewN _)).mono ?_
      rintro e4 w4 ⟨g5, rfl, lg5, bg5, Rg5, B4⟩
      replace Ag1 := Ag1.below (below_of_drewN B4)
      replace Og1 := Og1.below (below_of_drewN B4)
      replace Ag2 := Ag2.below (below_of_drewN B4)
      replace Og2 := Og2.below (below_of_drewN B4)
      replace Ag3 := Ag3.below (below_of_drewN B4)
      replace Og3 := Og3.below (below_of_drewN B4)
      replace Ag4 := Ag4.below (below_of_drewN B4)
      replace Og4 := Og4.below (below_of_drewN B4)
      have Z4 := below_trans Z3 (below_of_drewN B4)
      have Ag5 := Rg5.arg bg5
      have Og5 := Rg5.own lg5 bg5
      clear Rg5
      go_wp2_with fail
      refine (eqF_any _ _ la la la V V _ (by omega) Ag3 Ag5 (fun _ _ => rfl)).mono ?_
      rintro e w' ⟨rfl, n7, rfl⟩
      go_wp2_with fail
      refine (toF_any B la cb U _ (by omega) ((HB.out.below Z4).drewN _)).mono ?_
      rintro e5 w5 ⟨g6, rfl, lg6, bg6, Rg6, B5⟩
      replace Ag1 := Ag1.below (below_of_drewN B5)
      replace Og1 := Og1.below (below_of_drewN B5)
      replace Ag2 := Ag2.below (below_of_drewN B5)
      replace Og2 := Og2.below (below_of_drewN B5)
      replace Ag3 := Ag3.below (below_of_drewN B5)
      replace Og3 := Og3.below (below_of_drewN B5)
      replace Ag4 := Ag4.below (below_of_drewN B5)
      replace Og4 := Og4.below (below_of_drewN B5)
      replace Ag5 := Ag5.below (below_of_drewN B5)
      replace Og5 := Og5.below (below_of_drewN B5)
      have Z5 := below_trans Z4 (below_of_drewN B5)
      have Ag6 := Rg6.arg bg6
      have Og6 := Rg6.own lg6 bg6
      clear Rg6
      go_wp2_with fail
      refine (eqF_any _ _ la la la U U _ (by omega) Ag4 Ag6 (fun _ _ => rfl)).mono ?_
      rintro e w' ⟨rfl, n8, rfl⟩
      go_wp2_with fail
      go_ret
      exact ⟨rfl, below_drewN Z5 _⟩
    · have hno : ¬ (la ≤ 256 ∧ la = lb) := hyes
      clear hyes
      go_enter Try.func3, Try.ntmps3
      go_wp2_with fail
      refine (toF_any A la ca V _ (by omega) HA.out).mono ?_
      rintro e0 w0 ⟨g1, rfl, lg1, bg1, Rg1, B0⟩
      have Z0 := B0
      have Ag1 := Rg1.arg bg1
      have Og1 := Rg1.own lg1 bg1
      clear Rg1
      go_wp2_with fail
      refine (toF_any B lb cb U _ (by omega) (HB.out.below Z0)).mono ?_
      rintro e1 w1 ⟨g2, rfl, lg2, bg2, Rg2, B1⟩
      replace Ag1 := Ag1.below B1
      replace Og1 := Og1.below B1
      have Z1 := below_trans Z0 B1
      have Ag2 := Rg2.arg bg2
      have Og2 := Rg2.own lg2 bg2
      clear Rg2
      go_wp2_with fail
      refine (specDotN_no _ _ la lb la lb _ hno).mono ?_
      rintro e w' ⟨x, n, rfl, hx, bx, rfl⟩
      go_wp2_with fail
      refine (toF_any A la ca V _ (by omega) ((HA.out.below Z1).drewN _)).mono ?_
      rintro e2 w2 ⟨g3, rfl, lg3, bg3, Rg3, B2⟩
      replace Ag1 := Ag1.below (below_of_drewN B2)
      replace Og1 := Og1.below (below_of_drewN B2)
      replace Ag2 := Ag2.below (below_of_drewN B2)
      replace Og2 := Og2.below (below_of_drewN B2)
      have Z2 := below_trans Z1 (below_of_drewN B2)
      have Ag3 := Rg3.arg bg3
      have Og3 := Rg3.own lg3 bg3
      clear Rg3
      go_wp2_with fail
      refine (toF_any B lb cb U _ (by omega) (HB.out.below Z2)).mono ?_
      rintro e3 w3 ⟨g4, rfl, lg4, bg4, Rg4, B3⟩
      replace Ag1 := Ag1.below B3
      replace Og1 := Og1.below B3
      replace Ag2 := Ag2.below B3
      replace Og2 := Og2.below B3
      replace Ag3 := Ag3.below B3
      replace Og3 := Og3.below B3
      have Z3 := below_trans Z2 B3
      have Ag4 := Rg4.arg bg4
      have Og4 := Rg4.own lg4 bg4
      clear Rg4
      go_wp2_with fail
      refine (implDotN_no _ _ la lb la lb _ hno).mono ?_
      rintro e w' ⟨y, m, rfl, hy, bY, rfl⟩
      go_wp2_with (first | (refine wpList_fcv _ rfl _ _ _ rfl _ _ y rfl (by decide) rfl Try.underlying28 (narrows_up _) bY.out ?_; intro v1 n1 h1 c1) | (refine wpList_fcv _ rfl _ _ _ rfl _ _ x rfl (by decide) rfl Try.underlying28 (narrows_up _) bx.out ?_; intro v2 n2 h3 c2) | (go_at_call 22; refine (sameFloat_any v1 v2 (same_of hy hx h1 h3) _).mono ?_; rintro e w' ⟨rfl, n5, rfl⟩))
      go_wp2_with fail
      refine (toF_any A la ca V _ (by omega) ((HA.out.below Z3).drewN _)).mono ?_
      rintro e4 w4 ⟨g5, rfl, lg5, bg5, Rg5, B4⟩
      replace Ag1 := Ag1.below (below_of_drewN B4)
      replace Og1 := Og1.below (below_of_drewN B4)
      replace Ag2 := Ag2.below (below_of_drewN B4)
      replace Og2 := Og2.below (below_of_drewN B4)
      replace Ag3 := Ag3.below (below_of_drewN B4)
      replace Og3 := Og3.below (below_of_drewN B4)
      replace Ag4 := Ag4.below (below_of_drewN B4)
      replace Og4 := Og4.below (below_of_drewN B4)
      have Z4 := below_trans Z3 (below_of_drewN B4)
      have Ag5 := Rg5.arg bg5
      have Og5 := Rg5.own lg5 bg5
      clear Rg5
      go_wp2_with fail
      refine (eqF_any _ _ la la la V V _ (by omega) Ag3 Ag5 (fun _ _ => rfl)).mono ?_
      rintro e w' ⟨rfl, n7, rfl⟩
      go_wp2_with fail
      refine (toF_any B lb cb U _ (by omega) ((HB.out.below Z4).drewN _)).mono ?_
      rintro e5 w5 ⟨g6, rfl, lg6, bg6, Rg6, B5⟩
      replace Ag1 := Ag1.below (below_of_drewN B5)
      replace Og1 := Og1.below (below_of_drewN B5)
      replace Ag2 := Ag2.below (below_of_drewN B5)
      replace Og2 := Og2.below (below_of_drewN B5)
      replace Ag3 := Ag3.below (below_of_drewN B5)
      replace Og3 := Og3.below (below_of_drewN B5)
      replace Ag4 := Ag4.below (below_of_drewN B5)
      replace Og4 := Og4.below (below_of_drewN B5)
      replace Ag5 := Ag5.below (below_of_drewN B5)
      replace Og5 := Og5.below (below_of_drewN B5)
      have Z5 := below_trans Z4 (below_of_drewN B5)
      have Ag6 := Rg6.arg bg6
      have Og6 := Rg6.own lg6 bg6
      clear Rg6
      go_wp2_with fail
      refine (eqF_any _ _ lb lb lb U U _ (by omega) Ag4 Ag6 (fun _ _ => rfl)).mono ?_
      rintro e w' ⟨rfl, n8, rfl⟩
      go_wp2_with fail
      go_ret
      exact ⟨rfl, below_drewN Z5 _⟩

theorem facts : joinedFacts Try.prog 3 Try.f3 Rows.fnExactDotNumbersSpec Rows.fnExactDotNumbersRow = true := by
  unfold joinedFacts
  rw [cutMake, cutLifts, cutEnter, cutRowed, cutMaps]
  kernel_rfl
set_option maxRecDepth 100000 in
theorem lifted (os : Os) (started : os.Started) (H : Type) (enc : TypeId × Value → H) :
    ReturnsInHanded {} Try.checked os 3 .any (Rows.fnExactDotNumbersSpec.pre6 enc Try.prog Try.f3 Rows.fnExactDotNumbersRow.domain false) (Rows.fnExactDotNumbersSpec.post enc Try.prog Try.f3 false true false false) := by
  refine returnsInHanded_of_change (C := Try.checked) own started (by kernel_rfl) Try.func3
    (ChangeSpec.witness6 (enc := enc) (C := Try.checked) false ⟨#[], #[.slice none 0 0, .slice none 0 0], []⟩ 8 (by kernel_rfl) (by kernel_rfl) (by kernel_rfl) (by kernel_rfl)) ?_
  intro W base args ds gs before hval0 hW hcnd _
  have hval : ∀ (j : Nat) t v, Try.f3.params[j]? = some t → args[j]? = some v → Value.okWide Try.prog W .any base t v := hval0
  have hW' := hW
  obtain ⟨p, q, hA0, hV, rfl, hfz, hnd⟩ := hW
  have hA : DataW.TrodAll enc Try.prog W 0 (fun _ => true) true Try.f3.params.toList args.toList ds p := hA0
  rw [Try.params3] at hA hval
  obtain ⟨v0, vs0, d0, ds0, p0, q0, hargs, rfl, rfl, h0, r0⟩ := trodAll_cons hA
  obtain ⟨v1, vs1, d1, ds1, p1, q1, rfl, rfl, rfl, h1, r1⟩ := trodAll_cons r0
  obtain ⟨rfl, rfl, rfl⟩ := trodAll_nil r1
  obtain rfl : args = #[v0, v1] := by cases args; simp_all
  obtain ⟨rfl, rfl⟩ := trodVars_none hV
  have k0 := h0
  obtain ⟨A0, l0, c0, V0, rfl, m0, H0⟩ := open_f32s Try.underlying22 Try.underlying23 (by kernel_rfl) (hval 0 22 v0 rfl rfl) h0
  have k1 := h1
  obtain ⟨A1, l1, c1, V1, rfl, m1, H1⟩ := open_f32s Try.underlying22 Try.underlying23 (by kernel_rfl) (hval 1 22 v1 rfl rfl) h1
  clear hA0 hval0
  refine (walk W A0 l0 c0 V0 m0 H0 A1 l1 c1 V1 m1 H1).mono fun e W' ⟨he, hg⟩ => ?_
  subst he
  exact ⟨_, rfl, post_of_below2 (pv := []) hW' (fun _ _ _ => (trodAll_cons_mk (shut_bool Try.underlying4 _) trodAll_mk0)) (trodAll_cons_mk (Below.trod cutRowed (by kernel_rfl) (of_decide_eq_true (by kernel_rfl)) k0 hg (fun x hx => hW'.lt x (by simp [hx]))) (trodAll_cons_mk (Below.trod cutRowed (by kernel_rfl) (of_decide_eq_true (by kernel_rfl)) k1 hg (fun x hx => hW'.lt x (by simp [hx]))) trodAll_mk0)) (fun _ _ => rfl) hg⟩

theorem over : Rows.fnExactDotNumbersRow.holds Try.pinned (OpenSpec.ofChange Rows.fnExactDotNumbersSpec) :=
  OpenClaim.holds_of_wide 3 Try.f3 rfl rfl rfl rfl rfl rfl rfl ⟨rfl, rfl, rfl, rfl, rfl⟩ rfl rfl rfl rfl rfl (by kernel_rfl) Try.func3 facts
    (of_decide_eq_true (by kernel_rfl)) (by unfold Func.isWrapper; rw [if_neg (of_decide_eq_false (by kernel_rfl))]; exact ⟨rfl, rfl⟩)
    (fun os started H enc _ => lifted os started H enc)

theorem holds : Rows.FnExactDotNumbersSaid := over
#print axioms holds
end Go.Proofs.Ytmomgaiondjinaa.fnExactDotNumbers
