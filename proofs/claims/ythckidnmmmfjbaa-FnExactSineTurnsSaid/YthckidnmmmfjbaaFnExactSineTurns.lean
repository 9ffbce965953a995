/- The program's SineTurns and the reference's agree at all arguments. No condition. -/
import Derived.Test.YthckidnmmmfjbaaRows
import Derived.WalkKit
import Derived.ProofKit
import Derived.OpenShut
import Derived.Laws.Cover2
import Derived.Test.YthckidnmmmfjbaaTurns
namespace Go.Proofs.Ythckidnmmmfjbaa.fnExactSineTurns
open Go.ChangeShapes Go.WideShapes Go.ChangeAt Go.RowKit Go.Proofs.Ythckidnmmmfjbaa.Fl Go.Proofs.Ythckidnmmmfjbaa
open Go.ChangeMaps (open_string shut_string)
theorem own : ownKnob Try.prog.godebug = none := by kernel_rfl

theorem walk (x : Nat) (hx0 : (Lit.float .f32 x).wf = true) (w : World) :
    Calls Try.prog 6 #[.float .f32 x] w fun e w' => e = .returned (.bool true) ∧ Grown w w' := by
  have HX := hid (f32_lt hx0)
  clear hx0
  go_enter Try.func6, Try.ntmps6
  go_wp2_with (first | (go_at_call 44; refine (specTurns_any _ HX.out _).mono ?_; rintro e w1 ⟨vw, nw, rfl, hw, bw, rfl⟩) | (go_at_call 21; refine (implTurns_any _ HX.out _).mono ?_; rintro e w2 ⟨vg, ng, rfl, hg, bg, rfl⟩) | (refine wpList_fcv _ rfl _ _ _ rfl _ _ vg rfl (by decide) rfl Try.underlying26 (narrows_up _) bg.out ?_; intro v1 n1 h1 b1) | (refine wpList_fcv _ rfl _ _ _ rfl _ _ vw rfl (by decide) rfl Try.underlying26 (narrows_up _) bw.out ?_; intro v2 n2 h2 b2) | (go_at_call 15; refine (sameFloat_any v1 v2 (same_of hg hw h1 h2) _).mono ?_; rintro e w3 ⟨rfl, n3, rfl⟩) | go_in)
  go_ret
  exact ⟨rfl, grown_drewN _ _⟩

set_option maxRecDepth 100000 in
theorem lifted (os : Os) (started : os.Started) (H : Type) (enc : TypeId × Value → H) :
    ReturnsInHanded {} Try.checked os 6 .any (Rows.fnExactSineTurnsSpec.pre6 enc Try.prog Try.f6 Rows.fnExactSineTurnsRow.domain false) (Rows.fnExactSineTurnsSpec.post enc Try.prog Try.f6 false true false false) := by
  refine returnsInHanded_of_change (C := Try.checked) own started (by kernel_rfl) Try.func6
    (ChangeSpec.witness6 (enc := enc) (C := Try.checked) false ⟨#[], #[.float .f32 0], []⟩ 8 (by kernel_rfl) (by kernel_rfl) (by kernel_rfl) (by kernel_rfl)) ?_
  intro W base args ds gs before hval0 hW hcnd _
  have hval : ∀ (j : Nat) t v, Try.f6.params[j]? = some t → args[j]? = some v → Value.okWide Try.prog W .any base t v := hval0
  have hW' := hW
  obtain ⟨p, q, hA0, hV, rfl, hfz, hnd⟩ := hW
  have hA : DataW.TrodAll enc Try.prog W 0 (fun _ => true) true Try.f6.params.toList args.toList ds p := hA0
  rw [Try.params6] at hA hval
  obtain ⟨v0, vs0, d0, ds0, p0, q0, hargs, rfl, rfl, h0, r0⟩ := trodAll_cons hA
  obtain ⟨rfl, rfl, rfl⟩ := trodAll_nil r0
  obtain rfl : args = #[v0] := by cases args; simp_all
  obtain ⟨rfl, rfl⟩ := trodVars_none hV
  obtain ⟨a0, rfl, rfl, rfl, w0⟩ := open_float Try.underlying22 (hval 0 22 v0 rfl rfl) h0
  clear hA0 hval0
  simp only [List.append_nil] at hW'
  refine (walk a0 w0 W).mono fun e W' ⟨he, hg⟩ => ?_
  subst he
  exact ⟨_, rfl, post_of_same (pa := []) (pv := []) hW' (fun _ _ _ => (trodAll_cons_mk (shut_bool Try.underlying4 _) trodAll_mk0)) (fun sp _ => (trodAll_cons_mk (shut_float Try.underlying22 w0) trodAll_mk0)) (fun _ _ => rfl) rfl
    (hg.frame _) hg.2.1 (ok_one (by kernel_rfl) rfl (okWide_bool_mk Try.underlying4 _))⟩

theorem over : Rows.fnExactSineTurnsRow.holds Try.pinned (OpenSpec.ofChange Rows.fnExactSineTurnsSpec) :=
  OpenClaim.holds_of_wide 6 Try.f6 rfl rfl rfl rfl rfl rfl rfl ⟨rfl, rfl, rfl, rfl, rfl⟩ rfl rfl rfl rfl rfl (by kernel_rfl) Try.func6 (by kernel_rfl)
    (of_decide_eq_true (by kernel_rfl)) (by unfold Func.isWrapper; rw [if_neg (of_decide_eq_false (by kernel_rfl))]; exact ⟨rfl, rfl⟩)
    (fun os started H enc _ => lifted os started H enc)

theorem holds : Rows.FnExactSineTurnsSaid := over
#print axioms holds
end Go.Proofs.Ythckidnmmmfjbaa.fnExactSineTurns
