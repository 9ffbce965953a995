/- The program's TenthsOf and the reference's agree at every number. No condition. -/
import Derived.Test.YthckidnmmmfjbaaRows
import Derived.WalkKit
import Derived.ProofKit
import Derived.OpenShut
import Derived.Laws.Cover2
import Derived.Test.YthckidnmmmfjbaaTen
namespace Go.Proofs.Ythckidnmmmfjbaa.fnExactTenthsOf
open Go.ChangeShapes Go.WideShapes Go.ChangeAt Go.RowKit Go.Proofs.Ythckidnmmmfjbaa.Fl Go.Proofs.Ythckidnmmmfjbaa
open Go.ChangeMaps (open_string shut_string)
theorem own : ownKnob Try.prog.godebug = none := by kernel_rfl

theorem walk (x : Nat) (hx0 : (Lit.float .f32 x).wf = true) (w : World) :
    Calls Try.prog 8 #[.float .f32 x] w fun e w' => e = .returned (.bool true) ∧ Grown w w' := by
  have HX := hid (f32_lt hx0)
  clear hx0
  obtain ⟨I, hI⟩ : ∃ I, tensI x = I := ⟨_, rfl⟩
  obtain ⟨B, hB⟩ : ∃ B, tensB x = B := ⟨_, rfl⟩
  have S := fun w => specTenthsOf_any x w
  have G := fun w => implTenthsOf_any x HX.out w
  unfold RetTens at S G
  rw [hI, hB] at S G
  clear hI hB
  cases B
  · go_enter Try.func8, Try.ntmps8
    go_wp2_with (first | (go_at_call 24; refine (S _).mono ?_; rintro e w1 ⟨rfl, n1, rfl⟩) | (go_at_call 25; refine (G _).mono ?_; rintro e w1 ⟨rfl, n2, rfl⟩))
    go_ret
    exact ⟨rfl, grown_drewN _ _⟩
  · go_enter Try.func8, Try.ntmps8
    go_wp2_with (first | (go_at_call 24; refine (S _).mono ?_; rintro e w1 ⟨rfl, n1, rfl⟩) | (go_at_call 25; refine (G _).mono ?_; rintro e w1 ⟨rfl, n2, rfl⟩))
    go_ret
    exact ⟨rfl, grown_drewN _ _⟩

set_option maxRecDepth 100000 in
theorem lifted (os : Os) (started : os.Started) (H : Type) (enc : TypeId × Value → H) :
    ReturnsInHanded {} Try.checked os 8 .any (Rows.fnExactTenthsOfSpec.pre6 enc Try.prog Try.f8 Rows.fnExactTenthsOfRow.domain false) (Rows.fnExactTenthsOfSpec.post enc Try.prog Try.f8 false true false false) := by
  refine returnsInHanded_of_change (C := Try.checked) own started (by kernel_rfl) Try.func8
    (ChangeSpec.witness6 (enc := enc) (C := Try.checked) false ⟨#[], #[.float .f32 0], []⟩ 8 (by kernel_rfl) (by kernel_rfl) (by kernel_rfl) (by kernel_rfl)) ?_
  intro W base args ds gs before hval0 hW hcnd _
  have hval : ∀ (j : Nat) t v, Try.f8.params[j]? = some t → args[j]? = some v → Value.okWide Try.prog W .any base t v := hval0
  have hW' := hW
  obtain ⟨p, q, hA0, hV, rfl, hfz, hnd⟩ := hW
  have hA : DataW.TrodAll enc Try.prog W 0 (fun _ => true) true Try.f8.params.toList args.toList ds p := hA0
  rw [Try.params8] at hA hval
  obtain ⟨v0, vs0, d0, ds0, p0, q0, hargs, rfl, rfl, h0, r0⟩ := trodAll_cons hA
  obtain ⟨rfl, rfl, rfl⟩ := trodAll_nil r0
  obtain rfl : args = #[v0] := by cases args; simp_all
  obtain ⟨rfl, rfl⟩ := trodVars_none hV
  obtain ⟨a0, rfl, rfl, rfl, w0⟩ := open_float Try.underlying22 (hval 0 22 v0 rfl rfl) h0
  clear hA0 hval0
  simp only [List.append_nil] at hW'
  refine (walk a0 w0 W).mono fun e W' ⟨he, hg⟩ => ?_
  subst he
  exact ⟨_, rfl, post_of_same (pa := []) (pv := []) hW' (fun _ _ _ => (trodAll_cons_mk (shut_bool Try.underlying4 _) trodAll_mk0)) (fun sp _ => (trodAll_cons_mk (shut_float Try.underlying22 w0) trodAll_mk0)) (fun _ _ => rfl) rfl
    (hg.frame _) hg.2.1 (ok_one (by kernel_rfl) rfl (okWide_bool_mk Try.underlying4 _))⟩

theorem over : Rows.fnExactTenthsOfRow.holds Try.pinned (OpenSpec.ofChange Rows.fnExactTenthsOfSpec) :=
  OpenClaim.holds_of_wide 8 Try.f8 rfl rfl rfl rfl rfl rfl rfl ⟨rfl, rfl, rfl, rfl, rfl⟩ rfl rfl rfl rfl rfl (by kernel_rfl) Try.func8 (by kernel_rfl)
    (of_decide_eq_true (by kernel_rfl)) (by unfold Func.isWrapper; rw [if_neg (of_decide_eq_false (by kernel_rfl))]; exact ⟨rfl, rfl⟩)
    (fun os started H enc _ => lifted os started H enc)

theorem holds : Rows.FnExactTenthsOfSaid := over
#print axioms holds
end Go.Proofs.Ythckidnmmmfjbaa.fnExactTenthsOf
