/- The program's SteepestOf and the reference's agree at every ground and every number. No condition. -/
import Derived.Test.YtmomgaiondjinaaRows
import Derived.WalkKit
import Derived.ProofKit
import Derived.OpenShut
import Derived.Laws.Cover2
import Derived.Test.YtmomgaiondjinaaArg
import Derived.Test.YtmomgaiondjinaaCut
import Derived.Test.YtmomgaiondjinaaSteep
namespace Go.Proofs.Ytmomgaiondjinaa.fnExactSteepestOf
open Go.ChangeShapes Go.WideShapes Go.ChangeAt Go.RowKit Go.Proofs.Ytmomgaiondjinaa.Fl Go.Proofs.Ytmomgaiondjinaa
open Go.ChangeMaps (open_string shut_string)
theorem own : ownKnob Try.prog.godebug = none := by kernel_rfl

set_option maxHeartbeats 4000000 in
set_option maxRecDepth 100000 in
theorem walk (w : World) (A : Option Addr) (n c : Nat) (L : Nat → Nat → Nat) (s q : Nat) (_hm : n ≤ maxLen) (HL : LArg w A n L) (bs : s < 2 ^ 32) (bq : q < 2 ^ 32) (k : Int) (_wk : (Lit.int .i64 k).wf = true) :
    Calls Try.prog 9 #[.agg #[.slice A n c, .float .f32 s, .float .f32 q], .int .i64 k] w fun e w' => e = .returned (.bool true) ∧ Below w.heap.size w w' := by
  by_cases hl : n ≤ 1048576
  · have hlz : (n : Int) ≤ 1048576 := by omega
    go_enter Try.func9, Try.ntmps9
    have Z0 := Below.refl w.heap.size w
    replace HL := HL.below (below_alloc1 w (.cells #[.slice A n c, .float .f32 s, .float .f32 q] 37))
    have Z1 := below_step Z0 (below_alloc1 w (.cells #[.slice A n c, .float .f32 s, .float .f32 q] 37)) rfl rfl rfl rfl
    have XG := GBox.new w 37 A n c s q
    go_wp2_with fail
    refine (szGround_yes A n c s q 1048576 _ (by omega) (by omega)).mono ?_
    rintro e w2 ⟨rfl, B2⟩
    replace HL := HL.below (below_self B2 rfl rfl rfl rfl)
    replace XG := XG.below (below_self B2 rfl rfl rfl rfl)
    have Z3 := below_step Z1 B2 rfl rfl rfl rfl
    have XGa := XG.c0
    have XGb := XG.c1
    have XGc := XG.c2
    have XGl := XG.lt
    go_wp2_with fail
    refine (toGround_any A n c L s q _ hl (by exact HL)).mono ?_
    rintro e w4 ⟨g1, rfl, lg1, bg1, Rg1, B4⟩
    replace HL := HL.below (below_self B4 rfl rfl rfl rfl)
    replace XG := XG.below (below_self B4 rfl rfl rfl rfl)
    have Z5 := below_step Z3 B4 rfl rfl rfl rfl
    have XGa := XG.c0
    have XGb := XG.c1
    have XGc := XG.c2
    have XGl := XG.lt
    have Lg1 := Rg1.arg bg1
    go_wp2_with fail
    refine (specSteepestOf_any (some ⟨g1, 0, none⟩) n n L s q k _ hl (by exact Lg1)).mono ?_
    rintro e w6 ⟨x, rfl, hx, bx, B6⟩
    replace HL := HL.below (below_self B6 rfl rfl rfl rfl)
    replace Lg1 := Lg1.below (below_self B6 rfl rfl rfl rfl)
    replace XG := XG.below (below_self B6 rfl rfl rfl rfl)
    have Z7 := below_step Z5 B6 rfl rfl rfl rfl
    have XGa := XG.c0
    have XGb := XG.c1
    have XGc := XG.c2
    have XGl := XG.lt
    go_wp2_with fail
    refine (toGround_any A n c L s q _ hl (by exact HL)).mono ?_
    rintro e w8 ⟨g2, rfl, lg2, bg2, Rg2, B8⟩
    replace HL := HL.below (below_self B8 rfl rfl rfl rfl)
    replace Lg1 := Lg1.below (below_self B8 rfl rfl rfl rfl)
    replace XG := XG.below (below_self B8 rfl rfl rfl rfl)
    have Z9 := below_step Z7 B8 rfl rfl rfl rfl
    have XGa := XG.c0
    have XGb := XG.c1
    have XGc := XG.c2
    have XGl := XG.lt
    have Lg2 := Rg2.arg bg2
    replace HL := HL.below (below_alloc1 w8 (.cells #[.slice (some ⟨g2, 0, none⟩) n n, .float .f32 s, .float .f32 q] 42))
    replace Lg1 := Lg1.below (below_alloc1 w8 (.cells #[.slice (some ⟨g2, 0, none⟩) n n, .float .f32 s, .float .f32 q] 42))
    replace Lg2 := Lg2.below (below_alloc1 w8 (.cells #[.slice (some ⟨g2, 0, none⟩) n n, .float .f32 s, .float .f32 q] 42))
    replace XG := XG.below (below_alloc1 w8 (.cells #[.slice (some ⟨g2, 0, none⟩) n n, .float .f32 s, .float .f32 q] 42))
    have Z10 := below_step Z9 (below_alloc1 w8 (.cells #[.slice (some ⟨g2, 0, none⟩) n n, .float .f32 s, .float .f32 q] 42)) rfl rfl rfl rfl
    have XH := GBox.new w8 42 (some ⟨g2, 0, none⟩) n n s q
    go_wp2_with fail
    refine (implSteepestOf_any (some ⟨g2, 0, none⟩) n L s q k _ hl (by exact Lg2) bs bq).mono ?_
    rintro e w11 ⟨y, rfl, hy, bY, B11⟩
    replace HL := HL.below (below_self B11 rfl rfl rfl rfl)
    replace Lg1 := Lg1.below (below_self B11 rfl rfl rfl rfl)
    replace Lg2 := Lg2.below (below_self B11 rfl rfl rfl rfl)
    replace XG := XG.below (below_self B11 rfl rfl rfl rfl)
    replace XH := XH.below (below_self B11 rfl rfl rfl rfl)
    have Z12 := below_step Z10 B11 rfl rfl rfl rfl
    have XGa := XG.c0
    have XGb := XG.c1
    have XGc := XG.c2
    have XGl := XG.lt
    have XHa := XH.c0
    have XHb := XH.c1
    have XHc := XH.c2
    have XHl := XH.lt
    go_wp2_with (first | (refine wpList_fcv _ rfl _ _ _ rfl _ _ y rfl (by decide) rfl Try.underlying28 (narrows_up _) bY.out ?_; intro v1 n1 h1 c1) | (refine wpList_fcv _ rfl _ _ _ rfl _ _ x rfl (by decide) rfl Try.underlying28 (narrows_up _) bx.out ?_; intro v2 n2 h2 c2) | (go_at_call 22; refine (sameFloat_any v1 v2 (same_of hy hx h1 h2) _).mono ?_; rintro e w' ⟨rfl, n5, rfl⟩))
    go_wp2_with fail
    go_region_held (fun w' => w'.cell? ⟨w.heap.size, 0, none⟩ = some (.slice A n c) ∧ w'.cell? ⟨w.heap.size, 1, none⟩ = some (.float .f32 s) ∧ w'.cell? ⟨w.heap.size, 2, none⟩ = some (.float .f32 q) ∧ w'.cell? ⟨w8.heap.size, 0, none⟩ = some (.slice (some ⟨g2, 0, none⟩) n n) ∧ w'.cell? ⟨w8.heap.size, 1, none⟩ = some (.float .f32 s) ∧ w'.cell? ⟨w8.heap.size, 2, none⟩ = some (.float .f32 q)) ((refine ⟨?_, ?_, ?_, ?_, ?_, ?_⟩ <;> first | assumption | exact (Below.cell (by assumption) (by assumption)).trans (by assumption))) (first | ((go_at_call 32; refine (toGround_any A n c L s q _ hl (by exact HL)).mono ?_; rintro e w13 ⟨ge13, rfl, le13, be13, Re13, B13⟩; obtain ⟨p0, p1, p2, p3⟩ := XG.below (below_self B13 rfl rfl rfl rfl); obtain ⟨p4, p5, p6, p7⟩ := XH.below (below_self B13 rfl rfl rfl rfl))) | ((go_at_call 34; refine (eqGround_any _ _ n n n L L s q s q _ hl (by exact Lg2.below (below_self B13 rfl rfl rfl rfl)) (by exact Re13.arg be13) (fun _ _ _ _ => rfl) rfl rfl (by assumption) (by assumption) (by assumption) (by assumption)).mono ?_; rintro e w13x ⟨rfl, B13x⟩)))
    all_goals
      go_wp2
      go_ret
      exact ⟨rfl, below_step (below_step Z12 B13 rfl rfl rfl rfl) B13x rfl rfl rfl rfl⟩
  · go_enter Try.func9, Try.ntmps9
    go_wp2_with fail
    refine (szGround_no A n c s q 1048576 _ _hm (by omega)).mono ?_
    rintro e w1 ⟨rfl, B1⟩
    go_wp2
    go_ret
    exact ⟨rfl, below_step (below_alloc1 w _) B1 rfl rfl rfl rfl⟩

theorem facts : joinedFacts Try.prog 9 Try.f9 Rows.fnExactSteepestOfSpec Rows.fnExactSteepestOfRow = true := by
  unfold joinedFacts
  rw [cutMake, cutLifts, cutEnter, cutRowed, cutMaps]
  kernel_rfl
set_option maxRecDepth 100000 in
theorem lifted (os : Os) (started : os.Started) (H : Type) (enc : TypeId × Value → H) :
    ReturnsInHanded {} Try.checked os 9 .any (Rows.fnExactSteepestOfSpec.pre6 enc Try.prog Try.f9 Rows.fnExactSteepestOfRow.domain false) (Rows.fnExactSteepestOfSpec.post enc Try.prog Try.f9 false true false false) := by
  refine returnsInHanded_of_change (C := Try.checked) own started (by kernel_rfl) Try.func9
    (ChangeSpec.witness6 (enc := enc) (C := Try.checked) false ⟨#[], #[.agg #[.slice none 0 0, .float .f32 0, .float .f32 0], .int .i64 0], []⟩ 8 (by kernel_rfl) (by kernel_rfl) (by kernel_rfl) (by kernel_rfl)) ?_
  intro W base args ds gs before hval0 hW hcnd _
  have hval : ∀ (j : Nat) t v, Try.f9.params[j]? = some t → args[j]? = some v → Value.okWide Try.prog W .any base t v := hval0
  have hW' := hW
  obtain ⟨p, q, hA0, hV, rfl, hfz, hnd⟩ := hW
  have hA : DataW.TrodAll enc Try.prog W 0 (fun _ => true) true Try.f9.params.toList args.toList ds p := hA0
  rw [Try.params9] at hA hval
  obtain ⟨v0, vs0, d0, ds0, p0, q0, hargs, rfl, rfl, h0, r0⟩ := trodAll_cons hA
  obtain ⟨v1, vs1, d1, ds1, p1, q1, rfl, rfl, rfl, h1, r1⟩ := trodAll_cons r0
  obtain ⟨rfl, rfl, rfl⟩ := trodAll_nil r1
  obtain rfl : args = #[v0, v1] := by cases args; simp_all
  obtain ⟨rfl, rfl⟩ := trodVars_none hV
  have k0 := h0
  obtain ⟨A0, l0, c0, L0, s0, q0', rfl, m0, H0, b0, b0'⟩ := open_ground Try.underlying37 (by kernel_rfl) (by kernel_rfl) Try.underlying35 Try.underlying101 (by kernel_rfl) (by kernel_rfl) Try.underlying23 Try.underlying23 Try.underlying23 Try.underlying23 Try.underlying23 Try.underlying23 (hval 0 37 v0 rfl rfl) h0
  have k1 := h1
  obtain ⟨a1, rfl, rfl, rfl, w1⟩ := open_int Try.underlying2 (hval 1 2 v1 rfl rfl) h1
  clear hA0 hval0
  refine (walk W A0 l0 c0 L0 s0 q0' m0 H0 b0 b0' a1 w1).mono fun e W' ⟨he, hg⟩ => ?_
  subst he
  exact ⟨_, rfl, post_of_below2 (pv := []) hW' (fun _ _ _ => (trodAll_cons_mk (shut_bool Try.underlying4 _) trodAll_mk0)) (trodAll_cons_mk (Below.trod cutRowed (by kernel_rfl) (of_decide_eq_true (by kernel_rfl)) k0 hg (fun x hx => hW'.lt x (by simp [hx]))) (trodAll_cons_mk (shut_int Try.underlying2 w1) trodAll_mk0)) (fun _ _ => rfl) hg⟩

theorem over : Rows.fnExactSteepestOfRow.holds Try.pinned (OpenSpec.ofChange Rows.fnExactSteepestOfSpec) :=
  OpenClaim.holds_of_wide 9 Try.f9 rfl rfl rfl rfl rfl rfl rfl ⟨rfl, rfl, rfl, rfl, rfl⟩ rfl rfl rfl rfl rfl (by kernel_rfl) Try.func9 facts
    (of_decide_eq_true (by kernel_rfl)) (by unfold Func.isWrapper; rw [if_neg (of_decide_eq_false (by kernel_rfl))]; exact ⟨rfl, rfl⟩)
    (fun os started H enc _ => lifted os started H enc)

theorem holds : Rows.FnExactSteepestOfSaid := over
#print axioms holds
end Go.Proofs.Ytmomgaiondjinaa.fnExactSteepestOf
