/- The program's PhasorOf and the reference's agree at all arguments. No condition. -/
import Derived.Test.YthckidnmmmfjbaaRows
import Derived.WalkKit
import Derived.ProofKit
import Derived.OpenShut
import Derived.Laws.Cover2
import Derived.Test.YthckidnmmmfjbaaPhasor
namespace Go.Proofs.Ythckidnmmmfjbaa.fnExactPhasorOf
open Go.ChangeShapes Go.WideShapes Go.ChangeAt Go.RowKit Go.Proofs.Ythckidnmmmfjbaa.Fl Go.Proofs.Ythckidnmmmfjbaa
open Go.ChangeMaps (open_string shut_string)
theorem own : ownKnob Try.prog.godebug = none := by kernel_rfl

theorem walk (t : Nat) (ht0 : (Lit.float .f64 t).wf = true) (w : World) :
    Calls Try.prog 11 #[.float .f64 t] w fun e w' => e = .returned (.bool true) ∧ Grown w w' := by
  have HT := hid (f64_lt ht0)
  clear ht0
  go_enter Try.func11, Try.ntmps11
  go_wp2_with (first | (go_at_call 62; refine (specPhasor_any _ HT.out _).mono ?_; rintro e w1 ⟨a, b, nw, rfl, ha, hb, ba, bb, rfl⟩) | (go_at_call 31; refine (implPhasor_any _ HT.out _).mono ?_; rintro e w2 ⟨c, d, ng, rfl, hc, hd, bc, bd, rfl⟩) | (refine wpList_ccv _ rfl _ _ _ rfl c d rfl rfl Try.underlying37 ?_; intro u1 v1 n1 hu1 hv1) | (refine wpList_ccv _ rfl _ _ _ rfl a b rfl rfl Try.underlying37 ?_; intro u2 v2 n2 hu2 hv2) | (go_at_call 32; refine (sameComplex_any _ _ _ _ (same_of hc ha hu1 hu2) (same_of hd hb hv1 hv2) _).mono ?_; rintro e w3 ⟨rfl, n3, rfl⟩) | go_in)
  go_ret
  exact ⟨rfl, grown_drewN _ _⟩

set_option maxRecDepth 100000 in
theorem lifted (os : Os) (started : os.Started) (H : Type) (enc : TypeId × Value → H) :
    ReturnsInHanded {} Try.checked os 11 .any (Rows.fnExactPhasorOfSpec.pre6 enc Try.prog Try.f11 Rows.fnExactPhasorOfRow.domain false) (Rows.fnExactPhasorOfSpec.post enc Try.prog Try.f11 false true false false) := by
  refine returnsInHanded_of_change (C := Try.checked) own started (by kernel_rfl) Try.func11
    (ChangeSpec.witness6 (enc := enc) (C := Try.checked) false ⟨#[], #[.float .f64 0], []⟩ 8 (by kernel_rfl) (by kernel_rfl) (by kernel_rfl) (by kernel_rfl)) ?_
  intro W base args ds gs before hval0 hW hcnd _
  have hval : ∀ (j : Nat) t v, Try.f11.params[j]? = some t → args[j]? = some v → Value.okWide Try.prog W .any base t v := hval0
  have hW' := hW
  obtain ⟨p, q, hA0, hV, rfl, hfz, hnd⟩ := hW
  have hA : DataW.TrodAll enc Try.prog W 0 (fun _ => true) true Try.f11.params.toList args.toList ds p := hA0
  rw [Try.params11] at hA hval
  obtain ⟨v0, vs0, d0, ds0, p0, q0, hargs, rfl, rfl, h0, r0⟩ := trodAll_cons hA
  obtain ⟨rfl, rfl, rfl⟩ := trodAll_nil r0
  obtain rfl : args = #[v0] := by cases args; simp_all
  obtain ⟨rfl, rfl⟩ := trodVars_none hV
  obtain ⟨a0, rfl, rfl, rfl, w0⟩ := open_float Try.underlying26 (hval 0 26 v0 rfl rfl) h0
  clear hA0 hval0
  simp only [List.append_nil] at hW'
  refine (walk a0 w0 W).mono fun e W' ⟨he, hg⟩ => ?_
  subst he
  exact ⟨_, rfl, post_of_same (pa := []) (pv := []) hW' (fun _ _ _ => (trodAll_cons_mk (shut_bool Try.underlying4 _) trodAll_mk0)) (fun sp _ => (trodAll_cons_mk (shut_float Try.underlying26 w0) trodAll_mk0)) (fun _ _ => rfl) rfl
    (hg.frame _) hg.2.1 (ok_one (by kernel_rfl) rfl (okWide_bool_mk Try.underlying4 _))⟩

theorem over : Rows.fnExactPhasorOfRow.holds Try.pinned (OpenSpec.ofChange Rows.fnExactPhasorOfSpec) :=
  OpenClaim.holds_of_wide 11 Try.f11 rfl rfl rfl rfl rfl rfl rfl ⟨rfl, rfl, rfl, rfl, rfl⟩ rfl rfl rfl rfl rfl (by kernel_rfl) Try.func11 (by kernel_rfl)
    (of_decide_eq_true (by kernel_rfl)) (by unfold Func.isWrapper; rw [if_neg (of_decide_eq_false (by kernel_rfl))]; exact ⟨rfl, rfl⟩)
    (fun os started H enc _ => lifted os started H enc)

theorem holds : Rows.FnExactPhasorOfSaid := over
#print axioms holds
end Go.Proofs.Ythckidnmmmfjbaa.fnExactPhasorOf
