/- The program's SumNumbers and the reference's agree at every list. No condition. -/
import Derived.Test.YtmomgaiondjinaaRows
import Derived.WalkKit
import Derived.ProofKit
import Derived.OpenShut
import Derived.Laws.Cover2
import Derived.Test.YtmomgaiondjinaaArg
import Derived.Test.YtmomgaiondjinaaCut
import Derived.Test.YtmomgaiondjinaaSum
namespace Go.Proofs.Ytmomgaiondjinaa.fnExactSumNumbers
open Go.ChangeShapes Go.WideShapes Go.ChangeAt Go.RowKit Go.Proofs.Ytmomgaiondjinaa.Fl Go.Proofs.Ytmomgaiondjinaa
open Go.ChangeMaps (open_string shut_string)
theorem own : ownKnob Try.prog.godebug = none := by kernel_rfl

set_option maxRecDepth 100000 in
theorem walk (w : World) (A : Option Addr) (len cap : Nat) (V : Nat → Nat) (_hm : len ≤ maxLen) (hA : FArg w A len V) :
    Calls Try.prog 4 #[.slice A len cap] w fun e w' => e = .returned (.bool true) ∧ Below w.heap.size w w' := by
  by_cases hl : 1048576 < len
  · go_enter Try.func4, Try.ntmps4
    go_wp2
    go_ret
    exact ⟨rfl, Below.refl _ _⟩
  · by_cases h2 : len ≤ 256
    all_goals
      have HA := hid hA
      clear hA
      go_enter Try.func4, Try.ntmps4
      go_wp2_with fail
      refine (toF_any A len cap V _ (by omega) HA.out).mono ?_
      rintro e1 w1 ⟨g1, rfl, l1, b1, R1, B1⟩
      have A1 := R1.arg b1
      go_wp2_with fail
      first
        | (refine (specSumN_yes _ len len V _ h2 A1).mono ?_; rintro e2 w2 ⟨x, n, rfl, hx, bx, rfl⟩)
        | (refine (specSumN_no _ len len _ h2).mono ?_; rintro e2 w2 ⟨x, n, rfl, hx, bx, rfl⟩)
      have B2 := below_drewN B1 n
      go_wp2_with fail
      refine (toF_any A len cap V _ (by omega) (HA.out.below B2)).mono ?_
      rintro e3 w3 ⟨g3, rfl, l3, b3, R3, B3⟩
      have B3' := below_trans B2 B3
      have A3 := R3.arg b3
      go_wp2_with fail
      first
        | (refine (implSumN_yes _ len len V _ h2 A3).mono ?_; rintro e4 w4 ⟨y, m, rfl, hy, bY, rfl⟩)
        | (refine (implSumN_no _ len len _ h2).mono ?_; rintro e4 w4 ⟨y, m, rfl, hy, bY, rfl⟩)
      have B4 := below_drewN B3' m
      go_wp2_with (first | (refine wpList_fcv _ rfl _ _ _ rfl _ _ y rfl (by decide) rfl Try.underlying28 (narrows_up _) bY.out ?_; intro v1 n1 h1 c1) | (refine wpList_fcv _ rfl _ _ _ rfl _ _ x rfl (by decide) rfl Try.underlying28 (narrows_up _) bx.out ?_; intro v2 n2 h3 c2) | (go_at_call 22; refine (sameFloat_any v1 v2 (same_of hy hx h1 h3) _).mono ?_; rintro e5 w5 ⟨rfl, n5, rfl⟩))
      refine (toF_any A len cap V _ (by omega) (HA.out.below (below_drewN B3' _))).mono ?_
      rintro e6 w6 ⟨g6, rfl, l6, b6, R6, B6⟩
      have A6 := R6.arg b6
      have A3' := (R3.below b3 (below_of_drewN B6)).arg (Nat.lt_of_lt_of_le b3 (below_of_drewN B6).size)
      have B6' := below_trans B3' (below_of_drewN B6)
      go_wp2_with fail
      refine (eqF_any _ _ len len len V V _ (by omega) A3' A6 (fun _ _ => rfl)).mono ?_
      rintro e7 w7 ⟨rfl, n7, rfl⟩
      go_wp2
      go_ret
      exact ⟨rfl, below_drewN B6' _⟩

theorem facts : joinedFacts Try.prog 4 Try.f4 Rows.fnExactSumNumbersSpec Rows.fnExactSumNumbersRow = true := by
  unfold joinedFacts
  rw [cutMake, cutLifts, cutEnter, cutRowed, cutMaps]
  kernel_rfl
set_option maxRecDepth 100000 in
theorem lifted (os : Os) (started : os.Started) (H : Type) (enc : TypeId × Value → H) :
    ReturnsInHanded {} Try.checked os 4 .any (Rows.fnExactSumNumbersSpec.pre6 enc Try.prog Try.f4 Rows.fnExactSumNumbersRow.domain false) (Rows.fnExactSumNumbersSpec.post enc Try.prog Try.f4 false true false false) := by
  refine returnsInHanded_of_change (C := Try.checked) own started (by kernel_rfl) Try.func4
    (ChangeSpec.witness6 (enc := enc) (C := Try.checked) false ⟨#[], #[.slice none 0 0], []⟩ 8 (by kernel_rfl) (by kernel_rfl) (by kernel_rfl) (by kernel_rfl)) ?_
  intro W base args ds gs before hval0 hW hcnd _
  have hval : ∀ (j : Nat) t v, Try.f4.params[j]? = some t → args[j]? = some v → Value.okWide Try.prog W .any base t v := hval0
  have hW' := hW
  obtain ⟨p, q, hA0, hV, rfl, hfz, hnd⟩ := hW
  have hA : DataW.TrodAll enc Try.prog W 0 (fun _ => true) true Try.f4.params.toList args.toList ds p := hA0
  rw [Try.params4] at hA hval
  obtain ⟨v0, vs0, d0, ds0, p0, q0, hargs, rfl, rfl, h0, r0⟩ := trodAll_cons hA
  obtain ⟨rfl, rfl, rfl⟩ := trodAll_nil r0
  obtain rfl : args = #[v0] := by cases args; simp_all
  obtain ⟨rfl, rfl⟩ := trodVars_none hV
  have k0 := h0
  obtain ⟨A0, l0, c0, V0, rfl, m0, H0⟩ := open_f32s Try.underlying22 Try.underlying23 (by kernel_rfl) (hval 0 22 v0 rfl rfl) h0
  clear hA0 hval0
  refine (walk W A0 l0 c0 V0 m0 H0).mono fun e W' ⟨he, hg⟩ => ?_
  subst he
  exact ⟨_, rfl, post_of_below2 (pv := []) hW' (fun _ _ _ => (trodAll_cons_mk (shut_bool Try.underlying4 _) trodAll_mk0)) (trodAll_cons_mk (Below.trod cutRowed (by kernel_rfl) (of_decide_eq_true (by kernel_rfl)) k0 hg (fun x hx => hW'.lt x (by simp [hx]))) trodAll_mk0) (fun _ _ => rfl) hg⟩

theorem over : Rows.fnExactSumNumbersRow.holds Try.pinned (OpenSpec.ofChange Rows.fnExactSumNumbersSpec) :=
  OpenClaim.holds_of_wide 4 Try.f4 rfl rfl rfl rfl rfl rfl rfl ⟨rfl, rfl, rfl, rfl, rfl⟩ rfl rfl rfl rfl rfl (by kernel_rfl) Try.func4 facts
    (of_decide_eq_true (by kernel_rfl)) (by unfold Func.isWrapper; rw [if_neg (of_decide_eq_false (by kernel_rfl))]; exact ⟨rfl, rfl⟩)
    (fun os started H enc _ => lifted os started H enc)

theorem holds : Rows.FnExactSumNumbersSaid := over
#print axioms holds
end Go.Proofs.Ytmomgaiondjinaa.fnExactSumNumbers
