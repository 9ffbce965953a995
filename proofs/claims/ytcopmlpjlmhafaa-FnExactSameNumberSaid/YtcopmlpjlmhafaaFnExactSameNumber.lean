/- The program's SameNumber and the reference's agree at any two numbers. No condition. -/
import Derived.Test.YtcopmlpjlmhafaaRows
import Derived.WalkKit
import Derived.ProofKit
import Derived.OpenShut
import Derived.Laws.Cover2
import Derived.Test.YtcopmlpjlmhafaaBits
namespace Go.Proofs.Ytcopmlpjlmhafaa.fnExactSameNumber
open Go.ChangeShapes Go.WideShapes Go.ChangeAt Go.RowKit Go.Proofs.Ytcopmlpjlmhafaa.Fl Go.Proofs.Ytcopmlpjlmhafaa
open Go.ChangeMaps (open_string shut_string)
theorem own : ownKnob Try.prog.godebug = none := by kernel_rfl

theorem walk (x y : Nat) (hx0 : (Lit.float .f32 x).wf = true) (hy0 : (Lit.float .f32 y).wf = true) (w : World) :
    Calls Try.prog 8 #[.float .f32 x, .float .f32 y] w fun e w' => e = .returned (.bool true) ∧ Grown w w' := by
  have HX := hid (f32_lt hx0)
  have HY := hid (f32_lt hy0)
  clear hx0 hy0
  go_enter Try.func8, Try.ntmps8
  go_wp2_with (first | (go_at_call 26; refine (specBits_any _ (by first | exact HX.out | exact HY.out) _).mono ?_; rintro e w1 ⟨rfl, rfl⟩) | (go_at_call 16; refine (implBits_any _ (by first | exact HX.out | exact HY.out) _).mono ?_; rintro e w1 ⟨rfl, rfl⟩) | go_in)
  all_goals (go_ret; exact ⟨by simp, Grown.refl _⟩)

set_option maxRecDepth 100000 in
theorem lifted (os : Os) (started : os.Started) (H : Type) (enc : TypeId × Value → H) :
    ReturnsInHanded {} Try.checked os 8 .any (Rows.fnExactSameNumberSpec.pre6 enc Try.prog Try.f8 Rows.fnExactSameNumberRow.domain false) (Rows.fnExactSameNumberSpec.post enc Try.prog Try.f8 false true false false) := by
  refine returnsInHanded_of_change (C := Try.checked) own started (by kernel_rfl) Try.func8
    (ChangeSpec.witness6 (enc := enc) (C := Try.checked) false ⟨#[], #[.float .f32 0, .float .f32 0], []⟩ 8 (by kernel_rfl) (by kernel_rfl) (by kernel_rfl) (by kernel_rfl)) ?_
  intro W base args ds gs before hval0 hW hcnd _
  have hval : ∀ (j : Nat) t v, Try.f8.params[j]? = some t → args[j]? = some v → Value.okWide Try.prog W .any base t v := hval0
  have hW' := hW
  obtain ⟨p, q, hA0, hV, rfl, hfz, hnd⟩ := hW
  have hA : DataW.TrodAll enc Try.prog W 0 (fun _ => true) true Try.f8.params.toList args.toList ds p := hA0
  rw [Try.params8] at hA hval
  obtain ⟨v0, vs0, d0, ds0, p0, q0, hargs, rfl, rfl, h0, r0⟩ := trodAll_cons hA
  obtain ⟨v1, vs1, d1, ds1, p1, q1, rfl, rfl, rfl, h1, r1⟩ := trodAll_cons r0
  obtain ⟨rfl, rfl, rfl⟩ := trodAll_nil r1
  obtain rfl : args = #[v0, v1] := by cases args; simp_all
  obtain ⟨rfl, rfl⟩ := trodVars_none hV
  obtain ⟨a0, rfl, rfl, rfl, w0⟩ := open_float Try.underlying23 (hval 0 23 v0 rfl rfl) h0
  obtain ⟨a1, rfl, rfl, rfl, w1⟩ := open_float Try.underlying23 (hval 1 23 v1 rfl rfl) h1
  clear hA0 hval0
  simp only [List.append_nil] at hW'
  refine (walk a0 a1 w0 w1 W).mono fun e W' ⟨he, hg⟩ => ?_
  subst he
  exact ⟨_, rfl, post_of_same (pa := []) (pv := []) hW' (fun _ _ _ => (trodAll_cons_mk (shut_bool Try.underlying4 _) trodAll_mk0)) (fun sp _ => (trodAll_cons_mk (shut_float Try.underlying23 w0) (trodAll_cons_mk (shut_float Try.underlying23 w1) trodAll_mk0))) (fun _ _ => rfl) rfl
    (hg.frame _) hg.2.1 (ok_one (by kernel_rfl) rfl (okWide_bool_mk Try.underlying4 _))⟩

theorem over : Rows.fnExactSameNumberRow.holds Try.pinned (OpenSpec.ofChange Rows.fnExactSameNumberSpec) :=
  OpenClaim.holds_of_wide 8 Try.f8 rfl rfl rfl rfl rfl rfl rfl ⟨rfl, rfl, rfl, rfl, rfl⟩ rfl rfl rfl rfl rfl (by kernel_rfl) Try.func8 (by kernel_rfl)
    (of_decide_eq_true (by kernel_rfl)) (by unfold Func.isWrapper; rw [if_neg (of_decide_eq_false (by kernel_rfl))]; exact ⟨rfl, rfl⟩)
    (fun os started H enc _ => lifted os started H enc)

theorem holds : Rows.FnExactSameNumberSaid := over
#print axioms holds
end Go.Proofs.Ytcopmlpjlmhafaa.fnExactSameNumber
