/- The program's StraightEchoes and the reference's agree at every ground; what they hand back is their own. No condition. -/
import Derived.Test.YtmomgaiondjinaaRows
import Derived.WalkKit
import Derived.ProofKit
import Derived.OpenShut
import Derived.Laws.Cover2
import Derived.Test.YtmomgaiondjinaaArg
import Derived.Test.YtmomgaiondjinaaCut
import Derived.Test.YtmomgaiondjinaaEch
import Derived.Test.YtmomgaiondjinaaMk
namespace Go.Proofs.Ytmomgaiondjinaa.fnExactStraightEchoes
open Go.ChangeShapes Go.WideShapes Go.ChangeAt Go.RowKit Go.Proofs.Ytmomgaiondjinaa.Fl Go.Proofs.Ytmomgaiondjinaa
open Go.ChangeMaps (open_string shut_string)
theorem own : ownKnob Try.prog.godebug = none := by kernel_rfl

set_option maxHeartbeats 4000000 in
set_option maxRecDepth 100000 in
theorem walk (w : World) (A : Option Addr) (n c : Nat) (L : Nat → Nat → Nat) (s q : Nat) (_hm : n ≤ maxLen) (HL : LArg w A n L) (bs : s < 2 ^ 32) (bq : q < 2 ^ 32) :
    Calls Try.prog 16 #[.agg #[.slice A n c, .float .f32 s, .float .f32 q]] w fun e w' => e = .returned (.bool true) ∧ Below w.heap.size w w' := by
  by_cases hl : n ≤ 1048576
  · have hlz : (n : Int) ≤ 1048576 := by omega
    go_enter Try.func16, Try.ntmps16
    have HL0 := hid HL
    have HM : Hid ((lstN n (lsOk n L s q (echE n L s q))) ≤ 1048576) := Nat.le_trans (lstN_le _ _) hl
    have t1 : decide ((((1 + 4 * n : Nat)) : Int) < 0) = false := decide_eq_false (by omega)
    have t2 : decide ((((1 + (lstN n (lsOk n L s q (echE n L s q))) : Nat)) : Int) < 0) = false := decide_eq_false (by omega)
    have Z0 := Below.refl w.heap.size w
    replace HL := HL.below (below_alloc1 w (.cells #[.slice A n c, .float .f32 s, .float .f32 q] 37))
    have Z1 := below_step Z0 (below_alloc1 w (.cells #[.slice A n c, .float .f32 s, .float .f32 q] 37)) rfl rfl rfl rfl
    have XG := GBox.new w 37 A n c s q
    go_wp2_with fail
    refine (szGround_yes A n c s q 1048576 _ (by omega) (by omega)).mono ?_
    rintro e w2 ⟨rfl, B2⟩
    replace HL := HL.below (below_self B2 rfl rfl rfl rfl)
    replace XG := XG.below (below_self B2 rfl rfl rfl rfl)
    have Z3 := below_step Z1 B2 rfl rfl rfl rfl
    have XGa := XG.c0
    have XGb := XG.c1
    have XGc := XG.c2
    have XGl := XG.lt
    go_wp2_with fail
    refine (toGround_any A n c L s q _ hl (by exact HL)).mono ?_
    rintro e w4 ⟨g1, rfl, lg1, bg1, Rg1, B4⟩
    replace HL := HL.below (below_self B4 rfl rfl rfl rfl)
    replace XG := XG.below (below_self B4 rfl rfl rfl rfl)
    have Z5 := below_step Z3 B4 rfl rfl rfl rfl
    have XGa := XG.c0
    have XGb := XG.c1
    have XGc := XG.c2
    have XGl := XG.lt
    have Lg1 := Rg1.arg bg1
    go_wp2_with fail
    refine (specStraightEchoes_any (some ⟨g1, 0, none⟩) n n L s q _ hl (by exact Lg1)).mono ?_
    rintro e w6 ⟨D, dc, rfl, HD, B6⟩
    replace HL := HL.below (below_self B6 rfl rfl rfl rfl)
    replace Lg1 := Lg1.below (below_self B6 rfl rfl rfl rfl)
    replace XG := XG.below (below_self B6 rfl rfl rfl rfl)
    have Z7 := below_step Z5 B6 rfl rfl rfl rfl
    have XGa := XG.c0
    have XGb := XG.c1
    have XGc := XG.c2
    have XGl := XG.lt
    have FD := FOwnE.in_ HD.out
    have lD := XG.lt
    clear HD Lg1
    go_wp2_with fail
    refine (toGround_any A n c L s q _ hl (by exact HL)).mono ?_
    rintro e w8 ⟨g2, rfl, lg2, bg2, Rg2, B8⟩
    replace HL := HL.below (below_self B8 rfl rfl rfl rfl)
    replace FD := FD.below (below_self B8 rfl rfl rfl rfl)
    replace XG := XG.below (below_self B8 rfl rfl rfl rfl)
    have Z9 := below_step Z7 B8 rfl rfl rfl rfl
    have XGa := XG.c0
    have XGb := XG.c1
    have XGc := XG.c2
    have XGl := XG.lt
    have Lg2 := Rg2.arg bg2
    have Og2 : LBlk _ g2 n L := ⟨bg2, Rg2⟩
    have zl : w6.heap.size ≤ g2 := lg2
    have zb := bg2
    clear Rg2 lg2 bg2
    have z8 := size_self (b := w6) B8 rfl
    replace HL := HL.below (below_alloc1 w8 (.cells #[.slice (some ⟨g2, 0, none⟩) n n, .float .f32 s, .float .f32 q] 42))
    replace FD := FD.below (below_alloc1 w8 (.cells #[.slice (some ⟨g2, 0, none⟩) n n, .float .f32 s, .float .f32 q] 42))
    replace Lg2 := Lg2.below (below_alloc1 w8 (.cells #[.slice (some ⟨g2, 0, none⟩) n n, .float .f32 s, .float .f32 q] 42))
    replace Og2 := Og2.below (below_alloc1 w8 (.cells #[.slice (some ⟨g2, 0, none⟩) n n, .float .f32 s, .float .f32 q] 42))
    replace XG := XG.below (below_alloc1 w8 (.cells #[.slice (some ⟨g2, 0, none⟩) n n, .float .f32 s, .float .f32 q] 42))
    have Z10 := below_step Z9 (below_alloc1 w8 (.cells #[.slice (some ⟨g2, 0, none⟩) n n, .float .f32 s, .float .f32 q] 42)) rfl rfl rfl rfl
    have XH := GBox.new w8 42 (some ⟨g2, 0, none⟩) n n s q
    have z9 := size_alloc w8 (.cells #[.slice (some ⟨g2, 0, none⟩) n n, .float .f32 s, .float .f32 q] 42)
    go_wp2_with fail
    refine (implStraightEchoes_any (some ⟨g2, 0, none⟩) n n L s q _ hl (by exact Lg2) bs bq).mono ?_
    rintro e w11 ⟨G, gc, rfl, HG, B11⟩
    replace HL := HL.below (below_self B11 rfl rfl rfl rfl)
    replace FD := FD.below (below_self B11 rfl rfl rfl rfl)
    replace Lg2 := Lg2.below (below_self B11 rfl rfl rfl rfl)
    replace Og2 := Og2.below (below_self B11 rfl rfl rfl rfl)
    replace XG := XG.below (below_self B11 rfl rfl rfl rfl)
    replace XH := XH.below (below_self B11 rfl rfl rfl rfl)
    have Z12 := below_step Z10 B11 rfl rfl rfl rfl
    have XGa := XG.c0
    have XGb := XG.c1
    have XGc := XG.c2
    have XGl := XG.lt
    have XHa := XH.c0
    have XHb := XH.c1
    have XHc := XH.c2
    have XHl := XH.lt
    have FG := FOwnE.in_ HG.out
    clear HG
    go_wp2_with fail
    refine (eqF_E G D (lstN n (lsOk n L s q (echE n L s q))) gc dc _ _ _ _ (echE n L s q) _ HM.out (by first | exact FG | exact FG.drewN _) (by first | exact FD | exact FD.drewN _)).mono ?_
    rintro e wq13 ⟨rfl, n13, rfl⟩
    go_wp2_with fail
    go_region_held (fun w' => w'.cell? ⟨w.heap.size, 0, none⟩ = some (.slice A n c) ∧ w'.cell? ⟨w.heap.size, 1, none⟩ = some (.float .f32 s) ∧ w'.cell? ⟨w.heap.size, 2, none⟩ = some (.float .f32 q) ∧ w'.cell? ⟨w8.heap.size, 0, none⟩ = some (.slice (some ⟨g2, 0, none⟩) n n) ∧ w'.cell? ⟨w8.heap.size, 1, none⟩ = some (.float .f32 s) ∧ w'.cell? ⟨w8.heap.size, 2, none⟩ = some (.float .f32 q)) ((refine ⟨?_, ?_, ?_, ?_, ?_, ?_⟩ <;> first | assumption | exact (Below.cell (by assumption) (by assumption)).trans (by assumption))) (first | ((go_at_call 32; refine (toGround_any A n c L s q _ hl (by exact HL)).mono ?_; rintro e w14 ⟨ge14, rfl, le14, be14, Re14, B14⟩; obtain ⟨p0, p1, p2, p3⟩ := XG.below (below_self B14 rfl rfl rfl rfl); obtain ⟨p4, p5, p6, p7⟩ := XH.below (below_self B14 rfl rfl rfl rfl))) | ((go_at_call 34; refine (eqGround_any _ _ n n n L L s q s q _ hl (by exact Lg2.below (below_self B14 rfl rfl rfl rfl)) (by exact Re14.arg be14) (fun _ _ _ _ => rfl) rfl rfl (by assumption) (by assumption) (by assumption) (by assumption)).mono ?_; rintro e w14x ⟨rfl, B14x⟩)))
    clear p0 p1 p2 p3 p4 p5 p6 p7
    replace HL := HL.below (below_self B14 rfl rfl rfl rfl)
    replace FD := FD.below (below_self B14 rfl rfl rfl rfl)
    replace Lg2 := Lg2.below (below_self B14 rfl rfl rfl rfl)
    replace Og2 := Og2.below (below_self B14 rfl rfl rfl rfl)
    replace FG := FG.below (below_self B14 rfl rfl rfl rfl)
    replace XG := XG.below (below_self B14 rfl rfl rfl rfl)
    replace XH := XH.below (below_self B14 rfl rfl rfl rfl)
    have Z15 := below_step Z12 B14 rfl rfl rfl rfl
    have XGa := XG.c0
    have XGb := XG.c1
    have XGc := XG.c2
    have XGl := XG.lt
    have XHa := XH.c0
    have XHb := XH.c1
    have XHc := XH.c2
    have XHl := XH.lt
    replace HL := HL.below (below_self B14x rfl rfl rfl rfl)
    replace FD := FD.below (below_self B14x rfl rfl rfl rfl)
    replace Lg2 := Lg2.below (below_self B14x rfl rfl rfl rfl)
    replace Og2 := Og2.below (below_self B14x rfl rfl rfl rfl)
    replace FG := FG.below (below_self B14x rfl rfl rfl rfl)
    replace XG := XG.below (below_self B14x rfl rfl rfl rfl)
    replace XH := XH.below (below_self B14x rfl rfl rfl rfl)
    have Z16 := below_step Z15 B14x rfl rfl rfl rfl
    have XGa := XG.c0
    have XGb := XG.c1
    have XGc := XG.c2
    have XGl := XG.lt
    have XHa := XH.c0
    have XHb := XH.c1
    have XHc := XH.c2
    have XHl := XH.lt
    go_wp2_with fail
    refine (markG_any g2 n n 1 w6.heap.size w8.heap.size s q L _ hl (by omega) (by exact zl) (by exact zb) (by exact Og2.lt) (by exact Og2.row)).mono ?_
    rintro e w17 ⟨rfl, K17⟩
    replace FD := FD.only (only_self K17 rfl rfl rfl rfl) (.inl (Nat.le_refl _))
    replace FG := FG.only (only_self K17 rfl rfl rfl rfl) (.inr z9)
    replace XG := XG.only (only_self K17 rfl rfl rfl rfl) (.inl lD)
    have Z18 := below_only Z16 K17 (Nat.le_of_lt lD) rfl rfl rfl rfl
    replace HL := HL0.out.below Z18
    clear K17
    have XGa := XG.c0
    have XGb := XG.c1
    have XGc := XG.c2
    have XGl := XG.lt
    clear Lg2 Og2 XH
    go_wp2_with fail
    refine (eqF_E G D (lstN n (lsOk n L s q (echE n L s q))) gc dc _ _ _ _ (echE n L s q) _ HM.out (by first | exact FG | exact FG.drewN _) (by first | exact FD | exact FD.drewN _)).mono ?_
    rintro e wq19 ⟨rfl, n19, rfl⟩
    have lD2 := Nat.lt_of_lt_of_le lD (Nat.le_trans z8 z9)
    have zD2 := Nat.le_trans z8 z9
    go_wp2_with fail
    refine (markF_E G (lstN n (lsOk n L s q (echE n L s q))) gc 1 (w8.alloc (.cells #[.slice (some ⟨g2, 0, none⟩) n n, .float .f32 s, .float .f32 q] 42)).heap.size w11.heap.size (echE n L s q) _ HM.out (by omega) (by first | exact FG | exact FG.drewN _)).mono ?_
    rintro e w20 ⟨rfl, K20, FM⟩
    replace FD := FD.only (only_self K20 rfl rfl rfl rfl) (.inl zD2)
    replace XG := XG.only (only_self K20 rfl rfl rfl rfl) (.inl lD2)
    have Z21 := below_only Z18 K20 (Nat.le_of_lt lD2) rfl rfl rfl rfl
    replace HL := HL0.out.below Z21
    clear K20
    have XGa := XG.c0
    have XGb := XG.c1
    have XGc := XG.c2
    have XGl := XG.lt
    clear FG
    go_wp2_with fail
    refine (heldF_E G (lstN n (lsOk n L s q (echE n L s q))) gc 1 _ _ _ HM.out (by omega) (by first | exact FM | exact FM.drewN _)).mono ?_
    rintro e wq22 ⟨rfl, rfl⟩
    go_wp2_with fail
    refine (toGround_any A n c L s q _ hl (by exact HL)).mono ?_
    rintro e w23 ⟨g3, rfl, lg3, bg3, Rg3, B23⟩
    replace HL := HL.below (below_self B23 rfl rfl rfl rfl)
    replace FD := FD.below (below_self B23 rfl rfl rfl rfl)
    replace FM := FM.below (below_self B23 rfl rfl rfl rfl)
    replace XG := XG.below (below_self B23 rfl rfl rfl rfl)
    have Z24 := below_step Z21 B23 rfl rfl rfl rfl
    have XGa := XG.c0
    have XGb := XG.c1
    have XGc := XG.c2
    have XGl := XG.lt
    have Lg3 := Rg3.arg bg3
    go_wp2_with fail
    refine (implStraightEchoes_any (some ⟨g3, 0, none⟩) n n L s q _ hl (by exact Lg3) bs bq).mono ?_
    rintro e w25 ⟨H, hc, rfl, HH, B25⟩
    replace HL := HL.below (below_self B25 rfl rfl rfl rfl)
    replace FD := FD.below (below_self B25 rfl rfl rfl rfl)
    replace FM := FM.below (below_self B25 rfl rfl rfl rfl)
    replace Lg3 := Lg3.below (below_self B25 rfl rfl rfl rfl)
    replace XG := XG.below (below_self B25 rfl rfl rfl rfl)
    have Z26 := below_step Z24 B25 rfl rfl rfl rfl
    have XGa := XG.c0
    have XGb := XG.c1
    have XGc := XG.c2
    have XGl := XG.lt
    have FH := FOwnE.in_ HH.out
    clear HH
    go_wp2_with fail
    refine (eqF_E H D (lstN n (lsOk n L s q (echE n L s q))) hc dc _ _ _ _ (echE n L s q) _ HM.out (by first | exact FH | exact FH.drewN _) (by first | exact FD | exact FD.drewN _)).mono ?_
    rintro e wq27 ⟨rfl, n27, rfl⟩
    go_wp2_with fail
    refine (heldF_E G (lstN n (lsOk n L s q (echE n L s q))) gc 1 _ _ _ HM.out (by omega) (by first | exact FM | exact FM.drewN _)).mono ?_
    rintro e wq28 ⟨rfl, rfl⟩
    go_wp2
    go_ret
    exact ⟨rfl, by first | exact Z26 | exact below_drewN Z26 _⟩
  · go_enter Try.func16, Try.ntmps16
    go_wp2_with fail
    refine (szGround_no A n c s q 1048576 _ _hm (by omega)).mono ?_
    rintro e w1 ⟨rfl, B1⟩
    go_wp2
    go_ret
    exact ⟨rfl, below_step (below_alloc1 w _) B1 rfl rfl rfl rfl⟩

theorem facts : joinedFacts Try.prog 16 Try.f16 Rows.fnExactStraightEchoesSpec Rows.fnExactStraightEchoesRow = true := by
  unfold joinedFacts
  rw [cutMake, cutLifts, cutEnter, cutRowed, cutMaps]
  kernel_rfl
set_option maxRecDepth 100000 in
theorem lifted (os : Os) (started : os.Started) (H : Type) (enc : TypeId × Value → H) :
    ReturnsInHanded {} Try.checked os 16 .any (Rows.fnExactStraightEchoesSpec.pre6 enc Try.prog Try.f16 Rows.fnExactStraightEchoesRow.domain false) (Rows.fnExactStraightEchoesSpec.post enc Try.prog Try.f16 false true false false) := by
  refine returnsInHanded_of_change (C := Try.checked) own started (by kernel_rfl) Try.func16
    (ChangeSpec.witness6 (enc := enc) (C := Try.checked) false ⟨#[], #[.agg #[.slice none 0 0, .float .f32 0, .float .f32 0]], []⟩ 8 (by kernel_rfl) (by kernel_rfl) (by kernel_rfl) (by kernel_rfl)) ?_
  intro W base args ds gs before hval0 hW hcnd _
  have hval : ∀ (j : Nat) t v, Try.f16.params[j]? = some t → args[j]? = some v → Value.okWide Try.prog W .any base t v := hval0
  have hW' := hW
  obtain ⟨p, q, hA0, hV, rfl, hfz, hnd⟩ := hW
  have hA : DataW.TrodAll enc Try.prog W 0 (fun _ => true) true Try.f16.params.toList args.toList ds p := hA0
  rw [Try.params16] at hA hval
  obtain ⟨v0, vs0, d0, ds0, p0, q0, hargs, rfl, rfl, h0, r0⟩ := trodAll_cons hA
  obtain ⟨rfl, rfl, rfl⟩ := trodAll_nil r0
  obtain rfl : args = #[v0] := by cases args; simp_all
  obtain ⟨rfl, rfl⟩ := trodVars_none hV
  have k0 := h0
  obtain ⟨A0, l0, c0, L0, s0, q0', rfl, m0, H0, b0, b0'⟩ := open_ground Try.underlying37 (by kernel_rfl) (by kernel_rfl) Try.underlying35 Try.underlying101 (by kernel_rfl) (by kernel_rfl) Try.underlying23 Try.underlying23 Try.underlying23 Try.underlying23 Try.underlying23 Try.underlying23 (hval 0 37 v0 rfl rfl) h0
  clear hA0 hval0
  refine (walk W A0 l0 c0 L0 s0 q0' m0 H0 b0 b0').mono fun e W' ⟨he, hg⟩ => ?_
  subst he
  exact ⟨_, rfl, post_of_below2 (pv := []) hW' (fun _ _ _ => (trodAll_cons_mk (shut_bool Try.underlying4 _) trodAll_mk0)) (trodAll_cons_mk (Below.trod cutRowed (by kernel_rfl) (of_decide_eq_true (by kernel_rfl)) k0 hg (fun x hx => hW'.lt x (by simp [hx]))) trodAll_mk0) (fun _ _ => rfl) hg⟩

theorem over : Rows.fnExactStraightEchoesRow.holds Try.pinned (OpenSpec.ofChange Rows.fnExactStraightEchoesSpec) :=
  OpenClaim.holds_of_wide 16 Try.f16 rfl rfl rfl rfl rfl rfl rfl ⟨rfl, rfl, rfl, rfl, rfl⟩ rfl rfl rfl rfl rfl (by kernel_rfl) Try.func16 facts
    (of_decide_eq_true (by kernel_rfl)) (by unfold Func.isWrapper; rw [if_neg (of_decide_eq_false (by kernel_rfl))]; exact ⟨rfl, rfl⟩)
    (fun os started H enc _ => lifted os started H enc)

theorem holds : Rows.FnExactStraightEchoesSaid := over
#print axioms holds
end Go.Proofs.Ytmomgaiondjinaa.fnExactStraightEchoes
