/- The program's AngleTurns and the reference's agree at all arguments. No condition. -/
import Derived.Test.YthckidnmmmfjbaaRows
import Derived.WalkKit
import Derived.ProofKit
import Derived.OpenShut
import Derived.Laws.Cover2
import Derived.Test.YthckidnmmmfjbaaAngle
namespace Go.Proofs.Ythckidnmmmfjbaa.fnExactAngleTurns
open Go.ChangeShapes Go.WideShapes Go.ChangeAt Go.RowKit Go.Proofs.Ythckidnmmmfjbaa.Fl Go.Proofs.Ythckidnmmmfjbaa
open Go.ChangeMaps (open_string shut_string)
theorem own : ownKnob Try.prog.godebug = none := by kernel_rfl

theorem walk (y x : Nat) (hy0 : (Lit.float .f32 y).wf = true) (hx0 : (Lit.float .f32 x).wf = true) (w : World) :
    Calls Try.prog 12 #[.float .f32 y, .float .f32 x] w fun e w' => e = .returned (.bool true) ∧ Below w.heap.size w w' := by
  have HY := hid (f32_lt hy0)
  have HX := hid (f32_lt hx0)
  clear hy0 hx0
  go_enter Try.func12, Try.ntmps12
  go_wp2_with (first | (go_at_call 64; refine (specAngle_any _ _ HY.out HX.out _).mono ?_; rintro e w1 ⟨vw, nw, rfl, hw, bw, rfl⟩) | (go_at_call 34; refine (implAngle_any _ _ HY.out HX.out _).mono ?_; rintro e w2 ⟨vg, rfl, hg, bg, hb2⟩) | (refine wpList_fcv _ rfl _ _ _ rfl _ _ vg rfl (by decide) rfl Try.underlying26 (narrows_up _) bg.out ?_; intro v1 n1 h1 b1) | (refine wpList_fcv _ rfl _ _ _ rfl _ _ vw rfl (by decide) rfl Try.underlying26 (narrows_up _) bw.out ?_; intro v2 n2 h2 b2) | (go_at_call 15; refine (sameFloat_any v1 v2 (same_of hg hw h1 h2) _).mono ?_; rintro e w3 ⟨rfl, n3, rfl⟩) | go_in)
  go_ret
  exact ⟨rfl, below_drewN (below_of_drewN (B := w.heap.size) hb2) _⟩

set_option maxRecDepth 100000 in
theorem lifted (os : Os) (started : os.Started) (H : Type) (enc : TypeId × Value → H) :
    ReturnsInHanded {} Try.checked os 12 .any (Rows.fnExactAngleTurnsSpec.pre6 enc Try.prog Try.f12 Rows.fnExactAngleTurnsRow.domain false) (Rows.fnExactAngleTurnsSpec.post enc Try.prog Try.f12 false true false false) := by
  refine returnsInHanded_of_change (C := Try.checked) own started (by kernel_rfl) Try.func12
    (ChangeSpec.witness6 (enc := enc) (C := Try.checked) false ⟨#[], #[.float .f32 0, .float .f32 0], []⟩ 8 (by kernel_rfl) (by kernel_rfl) (by kernel_rfl) (by kernel_rfl)) ?_
  intro W base args ds gs before hval0 hW hcnd _
  have hval : ∀ (j : Nat) t v, Try.f12.params[j]? = some t → args[j]? = some v → Value.okWide Try.prog W .any base t v := hval0
  have hW' := hW
  obtain ⟨p, q, hA0, hV, rfl, hfz, hnd⟩ := hW
  have hA : DataW.TrodAll enc Try.prog W 0 (fun _ => true) true Try.f12.params.toList args.toList ds p := hA0
  rw [Try.params12] at hA hval
  obtain ⟨v0, vs0, d0, ds0, p0, q0, hargs, rfl, rfl, h0, r0⟩ := trodAll_cons hA
  obtain ⟨v1, vs1, d1, ds1, p1, q1, rfl, rfl, rfl, h1, r1⟩ := trodAll_cons r0
  obtain ⟨rfl, rfl, rfl⟩ := trodAll_nil r1
  obtain rfl : args = #[v0, v1] := by cases args; simp_all
  obtain ⟨rfl, rfl⟩ := trodVars_none hV
  obtain ⟨a0, rfl, rfl, rfl, w0⟩ := open_float Try.underlying22 (hval 0 22 v0 rfl rfl) h0
  obtain ⟨a1, rfl, rfl, rfl, w1⟩ := open_float Try.underlying22 (hval 1 22 v1 rfl rfl) h1
  clear hA0 hval0
  simp only [List.append_nil] at hW'
  refine (walk a0 a1 w0 w1 W).mono fun e W' ⟨he, hg⟩ => ?_
  subst he
  exact ⟨_, rfl, post_of_below (pa := []) (pv := []) hW' (fun _ _ _ => (trodAll_cons_mk (shut_bool Try.underlying4 _) trodAll_mk0)) (fun sp _ => (trodAll_cons_mk (shut_float Try.underlying22 w0) (trodAll_cons_mk (shut_float Try.underlying22 w1) trodAll_mk0))) (fun _ _ => rfl) hg⟩

theorem over : Rows.fnExactAngleTurnsRow.holds Try.pinned (OpenSpec.ofChange Rows.fnExactAngleTurnsSpec) :=
  OpenClaim.holds_of_wide 12 Try.f12 rfl rfl rfl rfl rfl rfl rfl ⟨rfl, rfl, rfl, rfl, rfl⟩ rfl rfl rfl rfl rfl (by kernel_rfl) Try.func12 (by kernel_rfl)
    (of_decide_eq_true (by kernel_rfl)) (by unfold Func.isWrapper; rw [if_neg (of_decide_eq_false (by kernel_rfl))]; exact ⟨rfl, rfl⟩)
    (fun os started H enc _ => lifted os started H enc)

theorem holds : Rows.FnExactAngleTurnsSaid := over
#print axioms holds
end Go.Proofs.Ythckidnmmmfjbaa.fnExactAngleTurns
