/- The program's TurnGround and the reference's agree at every ground and every number; what they hand back is their own. No condition. -/
import Derived.Test.YtmomgaiondjinaaRows
import Derived.WalkKit
import Derived.ProofKit
import Derived.OpenShut
import Derived.Laws.Cover2
import Derived.Test.YtmomgaiondjinaaArg
import Derived.Test.YtmomgaiondjinaaCut
import Derived.Test.YtmomgaiondjinaaTgl
namespace Go.Proofs.Ytmomgaiondjinaa.fnExactTurnGround
open Go.ChangeShapes Go.WideShapes Go.ChangeAt Go.RowKit Go.Proofs.Ytmomgaiondjinaa.Fl Go.Proofs.Ytmomgaiondjinaa
open Go.ChangeMaps (open_string shut_string)
theorem own : ownKnob Try.prog.godebug = none := by kernel_rfl

set_option maxHeartbeats 4000000 in
set_option maxRecDepth 100000 in
theorem walk (w : World) (A : Option Addr) (n c : Nat) (L : Nat → Nat → Nat) (s q : Nat) (_hm : n ≤ maxLen) (HL : LArg w A n L) (bs : s < 2 ^ 32) (bq : q < 2 ^ 32) (p : Nat) (_wp : (Lit.float .f32 p).wf = true) :
    Calls Try.prog 15 #[.agg #[.slice A n c, .float .f32 s, .float .f32 q], .float .f32 p] w fun e w' => e = .returned (.bool true) ∧ Below w.heap.size w w' := by
  by_cases hl : n ≤ 1048576
  · have hlz : (n : Int) ≤ 1048576 := by omega
    have bp : p < 2 ^ 32 := wf32 _wp
    go_enter Try.func15, Try.ntmps15
    have HL0 := hid HL
    have HM : Hid ((lstN n (tgOk n L s q p)) ≤ 1048576) := Nat.le_trans (lstN_le _ _) hl
    have bS : (lstN (mulV s p) (tgOk n L s q p)) < 2 ^ 32 := lstN_bd (mulV_bd _ _) _
    have bQ : (lstN q (tgOk n L s q p)) < 2 ^ 32 := lstN_bd bq _
    have t1 : decide ((((1 + 4 * n : Nat)) : Int) < 0) = false := decide_eq_false (by omega)
    have t2 : decide ((((1 + 4 * (lstN n (tgOk n L s q p)) : Nat)) : Int) < 0) = false := decide_eq_false (by omega)
    have Z0 := Below.refl w.heap.size w
    replace HL := HL.below (below_alloc1 w (.cells #[.slice A n c, .float .f32 s, .float .f32 q] 37))
    have Z1 := below_step Z0 (below_alloc1 w (.cells #[.slice A n c, .float .f32 s, .float .f32 q] 37)) rfl rfl rfl rfl
    have XG := GBox.new w 37 A n c s q
    go_wp2_with fail
    refine (szGround_yes A n c s q 1048576 _ (by omega) (by omega)).mono ?_
    rintro e w2 ⟨rfl, B2⟩
    replace HL := HL.below (below_self B2 rfl rfl rfl rfl)
    replace XG := XG.below (below_self B2 rfl rfl rfl rfl)
    have Z3 := below_step Z1 B2 rfl rfl rfl rfl
    have XGa := XG.c0
    have XGb := XG.c1
    have XGc := XG.c2
    have XGl := XG.lt
    go_wp2_with fail
    refine (toGround_any A n c L s q _ hl (by exact HL)).mono ?_
    rintro e w4 ⟨g1, rfl, lg1, bg1, Rg1, B4⟩
    replace HL := HL.below (below_self B4 rfl rfl rfl rfl)
    replace XG := XG.below (below_self B4 rfl rfl rfl rfl)
    have Z5 := below_step Z3 B4 rfl rfl rfl rfl
    have XGa := XG.c0
    have XGb := XG.c1
    have XGc := XG.c2
    have XGl := XG.lt
    have Lg1 := Rg1.arg bg1
    go_wp2_with fail
    refine (specTurnGround_any (some ⟨g1, 0, none⟩) n n L s q p _ hl (by exact Lg1)).mono ?_
    rintro e w6 ⟨D, dc, rfl, HD, B6⟩
    replace HL := HL.below (below_self B6 rfl rfl rfl rfl)
    replace Lg1 := Lg1.below (below_self B6 rfl rfl rfl rfl)
    replace XG := XG.below (below_self B6 rfl rfl rfl rfl)
    have Z7 := below_step Z5 B6 rfl rfl rfl rfl
    have XGa := XG.c0
    have XGb := XG.c1
    have XGc := XG.c2
    have XGl := XG.lt
    have FD := LOwn.in_ HD.out
    have lD := XG.lt
    clear HD Lg1
    have z1 : w6.heap.size < (w6.alloc (.cells #[.slice D (lstN n (tgOk n L s q p)) dc, .float .f32 (lstN (mulV s p) (tgOk n L s q p)), .float .f32 (lstN q (tgOk n L s q p))] 42)).heap.size := by simp
    replace HL := HL.below (below_alloc1 w6 (.cells #[.slice D (lstN n (tgOk n L s q p)) dc, .float .f32 (lstN (mulV s p) (tgOk n L s q p)), .float .f32 (lstN q (tgOk n L s q p))] 42))
    replace FD := FD.below (below_alloc1 w6 (.cells #[.slice D (lstN n (tgOk n L s q p)) dc, .float .f32 (lstN (mulV s p) (tgOk n L s q p)), .float .f32 (lstN q (tgOk n L s q p))] 42))
    replace XG := XG.below (below_alloc1 w6 (.cells #[.slice D (lstN n (tgOk n L s q p)) dc, .float .f32 (lstN (mulV s p) (tgOk n L s q p)), .float .f32 (lstN q (tgOk n L s q p))] 42))
    have Z8 := below_step Z7 (below_alloc1 w6 (.cells #[.slice D (lstN n (tgOk n L s q p)) dc, .float .f32 (lstN (mulV s p) (tgOk n L s q p)), .float .f32 (lstN q (tgOk n L s q p))] 42)) rfl rfl rfl rfl
    have XW := GBox.new w6 42 D (lstN n (tgOk n L s q p)) dc (lstN (mulV s p) (tgOk n L s q p)) (lstN q (tgOk n L s q p))
    go_wp2_with fail
    refine (toGround_any A n c L s q _ hl (by exact HL)).mono ?_
    rintro e w9 ⟨g2, rfl, lg2, bg2, Rg2, B9⟩
    replace HL := HL.below (below_self B9 rfl rfl rfl rfl)
    replace FD := FD.below (below_self B9 rfl rfl rfl rfl)
    replace XG := XG.below (below_self B9 rfl rfl rfl rfl)
    replace XW := XW.below (below_self B9 rfl rfl rfl rfl)
    have Z10 := below_step Z8 B9 rfl rfl rfl rfl
    have XGa := XG.c0
    have XGb := XG.c1
    have XGc := XG.c2
    have XGl := XG.lt
    have XWa := XW.c0
    have XWb := XW.c1
    have XWc := XW.c2
    have XWl := XW.lt
    have Lg2 := Rg2.arg bg2
    have I2 : LIn w9 (w6.alloc (.cells #[.slice D (lstN n (tgOk n L s q p)) dc, .float .f32 (lstN (mulV s p) (tgOk n L s q p)), .float .f32 (lstN q (tgOk n L s q p))] 42)).heap.size w9.heap.size (some ⟨g2, 0, none⟩) n L := fun _ => ⟨g2, rfl, lg2, bg2, bg2, Rg2⟩
    have z2 := size_self (b := (w6.alloc (.cells #[.slice D (lstN n (tgOk n L s q p)) dc, .float .f32 (lstN (mulV s p) (tgOk n L s q p)), .float .f32 (lstN q (tgOk n L s q p))] 42))) B9 rfl
    clear Rg2 lg2 bg2
    replace HL := HL.below (below_alloc1 w9 (.cells #[.slice (some ⟨g2, 0, none⟩) n n, .float .f32 s, .float .f32 q] 42))
    replace FD := FD.below (below_alloc1 w9 (.cells #[.slice (some ⟨g2, 0, none⟩) n n, .float .f32 s, .float .f32 q] 42))
    replace Lg2 := Lg2.below (below_alloc1 w9 (.cells #[.slice (some ⟨g2, 0, none⟩) n n, .float .f32 s, .float .f32 q] 42))
    replace I2 := I2.below (below_alloc1 w9 (.cells #[.slice (some ⟨g2, 0, none⟩) n n, .float .f32 s, .float .f32 q] 42))
    replace XG := XG.below (below_alloc1 w9 (.cells #[.slice (some ⟨g2, 0, none⟩) n n, .float .f32 s, .float .f32 q] 42))
    replace XW := XW.below (below_alloc1 w9 (.cells #[.slice (some ⟨g2, 0, none⟩) n n, .float .f32 s, .float .f32 q] 42))
    have Z11 := below_step Z10 (below_alloc1 w9 (.cells #[.slice (some ⟨g2, 0, none⟩) n n, .float .f32 s, .float .f32 q] 42)) rfl rfl rfl rfl
    have XH := GBox.new w9 42 (some ⟨g2, 0, none⟩) n n s q
    have z3 := size_alloc w9 (.cells #[.slice (some ⟨g2, 0, none⟩) n n, .float .f32 s, .float .f32 q] 42)
    go_wp2_with fail
    refine (implTurnGround_any (some ⟨g2, 0, none⟩) n n L s q p _ hl (by exact Lg2) bs bq bp).mono ?_
    rintro e w12 ⟨G, gc, rfl, HG, B12⟩
    replace HL := HL.below (below_self B12 rfl rfl rfl rfl)
    replace FD := FD.below (below_self B12 rfl rfl rfl rfl)
    replace Lg2 := Lg2.below (below_self B12 rfl rfl rfl rfl)
    replace I2 := I2.below (below_self B12 rfl rfl rfl rfl)
    replace XG := XG.below (below_self B12 rfl rfl rfl rfl)
    replace XW := XW.below (below_self B12 rfl rfl rfl rfl)
    replace XH := XH.below (below_self B12 rfl rfl rfl rfl)
    have Z13 := below_step Z11 B12 rfl rfl rfl rfl
    have XGa := XG.c0
    have XGb := XG.c1
    have XGc := XG.c2
    have XGl := XG.lt
    have XWa := XW.c0
    have XWb := XW.c1
    have XWc := XW.c2
    have XWl := XW.lt
    have XHa := XH.c0
    have XHb := XH.c1
    have XHc := XH.c2
    have XHl := XH.lt
    have z4 := size_self (b := (w9.alloc (.cells #[.slice (some ⟨g2, 0, none⟩) n n, .float .f32 s, .float .f32 q] 42))) B12 rfl
    have FG := LOwn.in_ HG.out
    clear HG
    replace HL := HL.below (below_alloc1 w12 (.cells #[.slice G (lstN n (tgOk n L s q p)) gc, .float .f32 (lstN (mulV s p) (tgOk n L s q p)), .float .f32 (lstN q (tgOk n L s q p))] 42))
    replace FD := FD.below (below_alloc1 w12 (.cells #[.slice G (lstN n (tgOk n L s q p)) gc, .float .f32 (lstN (mulV s p) (tgOk n L s q p)), .float .f32 (lstN q (tgOk n L s q p))] 42))
    replace Lg2 := Lg2.below (below_alloc1 w12 (.cells #[.slice G (lstN n (tgOk n L s q p)) gc, .float .f32 (lstN (mulV s p) (tgOk n L s q p)), .float .f32 (lstN q (tgOk n L s q p))] 42))
    replace I2 := I2.below (below_alloc1 w12 (.cells #[.slice G (lstN n (tgOk n L s q p)) gc, .float .f32 (lstN (mulV s p) (tgOk n L s q p)), .float .f32 (lstN q (tgOk n L s q p))] 42))
    replace FG := FG.below (below_alloc1 w12 (.cells #[.slice G (lstN n (tgOk n L s q p)) gc, .float .f32 (lstN (mulV s p) (tgOk n L s q p)), .float .f32 (lstN q (tgOk n L s q p))] 42))
    replace XG := XG.below (below_alloc1 w12 (.cells #[.slice G (lstN n (tgOk n L s q p)) gc, .float .f32 (lstN (mulV s p) (tgOk n L s q p)), .float .f32 (lstN q (tgOk n L s q p))] 42))
    replace XW := XW.below (below_alloc1 w12 (.cells #[.slice G (lstN n (tgOk n L s q p)) gc, .float .f32 (lstN (mulV s p) (tgOk n L s q p)), .float .f32 (lstN q (tgOk n L s q p))] 42))
    replace XH := XH.below (below_alloc1 w12 (.cells #[.slice G (lstN n (tgOk n L s q p)) gc, .float .f32 (lstN (mulV s p) (tgOk n L s q p)), .float .f32 (lstN q (tgOk n L s q p))] 42))
    have Z14 := below_step Z13 (below_alloc1 w12 (.cells #[.slice G (lstN n (tgOk n L s q p)) gc, .float .f32 (lstN (mulV s p) (tgOk n L s q p)), .float .f32 (lstN q (tgOk n L s q p))] 42)) rfl rfl rfl rfl
    have XO := GBox.new w12 42 G (lstN n (tgOk n L s q p)) gc (lstN (mulV s p) (tgOk n L s q p)) (lstN q (tgOk n L s q p))
    go_wp2_with fail
    refine (eqGround_any G D (lstN n (tgOk n L s q p)) gc dc (tgX L p) (tgX L p) (lstN (mulV s p) (tgOk n L s q p)) (lstN q (tgOk n L s q p)) (lstN (mulV s p) (tgOk n L s q p)) (lstN q (tgOk n L s q p)) _ HM.out (by exact FG.arg) (by exact FD.arg) (fun _ _ _ _ => rfl) rfl rfl bS bQ bS bQ).mono ?_
    rintro e w15 ⟨rfl, B15⟩
    replace HL := HL.below (below_self B15 rfl rfl rfl rfl)
    replace FD := FD.below (below_self B15 rfl rfl rfl rfl)
    replace Lg2 := Lg2.below (below_self B15 rfl rfl rfl rfl)
    replace I2 := I2.below (below_self B15 rfl rfl rfl rfl)
    replace FG := FG.below (below_self B15 rfl rfl rfl rfl)
    replace XG := XG.below (below_self B15 rfl rfl rfl rfl)
    replace XW := XW.below (below_self B15 rfl rfl rfl rfl)
    replace XH := XH.below (below_self B15 rfl rfl rfl rfl)
    replace XO := XO.below (below_self B15 rfl rfl rfl rfl)
    have Z16 := below_step Z14 B15 rfl rfl rfl rfl
    have XGa := XG.c0
    have XGb := XG.c1
    have XGc := XG.c2
    have XGl := XG.lt
    have XWa := XW.c0
    have XWb := XW.c1
    have XWc := XW.c2
    have XWl := XW.lt
    have XHa := XH.c0
    have XHb := XH.c1
    have XHc := XH.c2
    have XHl := XH.lt
    have XOa := XO.c0
    have XOb := XO.c1
    have XOc := XO.c2
    have XOl := XO.lt
    go_wp2_with fail
    go_region_held (fun w' => w'.cell? ⟨w.heap.size, 0, none⟩ = some (.slice A n c) ∧ w'.cell? ⟨w.heap.size, 1, none⟩ = some (.float .f32 s) ∧ w'.cell? ⟨w.heap.size, 2, none⟩ = some (.float .f32 q) ∧ w'.cell? ⟨w9.heap.size, 0, none⟩ = some (.slice (some ⟨g2, 0, none⟩) n n) ∧ w'.cell? ⟨w9.heap.size, 1, none⟩ = some (.float .f32 s) ∧ w'.cell? ⟨w9.heap.size, 2, none⟩ = some (.float .f32 q)) ((refine ⟨?_, ?_, ?_, ?_, ?_, ?_⟩ <;> first | assumption | exact (Below.cell (by assumption) (by assumption)).trans (by assumption))) (first | ((go_at_call 32; refine (toGround_any A n c L s q _ hl (by exact HL)).mono ?_; rintro e w17 ⟨ge17, rfl, le17, be17, Re17, B17⟩; obtain ⟨p0, p1, p2, p3⟩ := XG.below (below_self B17 rfl rfl rfl rfl); obtain ⟨p4, p5, p6, p7⟩ := XH.below (below_self B17 rfl rfl rfl rfl))) | ((go_at_call 34; refine (eqGround_any _ _ n n n L L s q s q _ hl (by exact Lg2.below (below_self B17 rfl rfl rfl rfl)) (by exact Re17.arg be17) (fun _ _ _ _ => rfl) rfl rfl (by assumption) (by assumption) (by assumption) (by assumption)).mono ?_; rintro e w17x ⟨rfl, B17x⟩)))
    clear p0 p1 p2 p3 p4 p5 p6 p7
    replace HL := HL.below (below_self B17 rfl rfl rfl rfl)
    replace FD := FD.below (below_self B17 rfl rfl rfl rfl)
    replace Lg2 := Lg2.below (below_self B17 rfl rfl rfl rfl)
    replace I2 := I2.below (below_self B17 rfl rfl rfl rfl)
    replace FG := FG.below (below_self B17 rfl rfl rfl rfl)
    replace XG := XG.below (below_self B17 rfl rfl rfl rfl)
    replace XW := XW.below (below_self B17 rfl rfl rfl rfl)
    replace XH := XH.below (below_self B17 rfl rfl rfl rfl)
    replace XO := XO.below (below_self B17 rfl rfl rfl rfl)
    have Z18 := below_step Z16 B17 rfl rfl rfl rfl
    have XGa := XG.c0
    have XGb := XG.c1
    have XGc := XG.c2
    have XGl := XG.lt
    have XWa := XW.c0
    have XWb := XW.c1
    have XWc := XW.c2
    have XWl := XW.lt
    have XHa := XH.c0
    have XHb := XH.c1
    have XHc := XH.c2
    have XHl := XH.lt
    have XOa := XO.c0
    have XOb := XO.c1
    have XOc := XO.c2
    have XOl := XO.lt
    replace HL := HL.below (below_self B17x rfl rfl rfl rfl)
    replace FD := FD.below (below_self B17x rfl rfl rfl rfl)
    replace Lg2 := Lg2.below (below_self B17x rfl rfl rfl rfl)
    replace I2 := I2.below (below_self B17x rfl rfl rfl rfl)
    replace FG := FG.below (below_self B17x rfl rfl rfl rfl)
    replace XG := XG.below (below_self B17x rfl rfl rfl rfl)
    replace XW := XW.below (below_self B17x rfl rfl rfl rfl)
    replace XH := XH.below (below_self B17x rfl rfl rfl rfl)
    replace XO := XO.below (below_self B17x rfl rfl rfl rfl)
    have Z19 := below_step Z18 B17x rfl rfl rfl rfl
    have XGa := XG.c0
    have XGb := XG.c1
    have XGc := XG.c2
    have XGl := XG.lt
    have XWa := XW.c0
    have XWb := XW.c1
    have XWc := XW.c2
    have XWl := XW.lt
    have XHa := XH.c0
    have XHb := XH.c1
    have XHc := XH.c2
    have XHl := XH.lt
    have XOa := XO.c0
    have XOb := XO.c1
    have XOc := XO.c2
    have XOl := XO.lt
    go_wp2_with fail
    refine (markG_E (some ⟨g2, 0, none⟩) n n 1 (w6.alloc (.cells #[.slice D (lstN n (tgOk n L s q p)) dc, .float .f32 (lstN (mulV s p) (tgOk n L s q p)), .float .f32 (lstN q (tgOk n L s q p))] 42)).heap.size w9.heap.size s q L _ hl (by omega) (by exact I2)).mono ?_
    rintro e w20 ⟨rfl, K20, _⟩
    replace FD := FD.only (only_self K20 rfl rfl rfl rfl) (.inl (by omega))
    replace FG := FG.only (only_self K20 rfl rfl rfl rfl) (.inr (by omega))
    replace XG := XG.only (only_self K20 rfl rfl rfl rfl) (.inl (by omega))
    replace XW := XW.only (only_self K20 rfl rfl rfl rfl) (.inl (by omega))
    replace XO := XO.only (only_self K20 rfl rfl rfl rfl) (.inr (by omega))
    have Z21 := below_only Z19 K20 (by omega) rfl rfl rfl rfl
    replace HL := HL0.out.below Z21
    clear K20
    have XGa := XG.c0
    have XGb := XG.c1
    have XGc := XG.c2
    have XGl := XG.lt
    have XWa := XW.c0
    have XWb := XW.c1
    have XWc := XW.c2
    have XWl := XW.lt
    have XOa := XO.c0
    have XOb := XO.c1
    have XOc := XO.c2
    have XOl := XO.lt
    clear Lg2 I2 XH
    go_wp2_with fail
    refine (eqGround_any G D (lstN n (tgOk n L s q p)) gc dc (tgX L p) (tgX L p) (lstN (mulV s p) (tgOk n L s q p)) (lstN q (tgOk n L s q p)) (lstN (mulV s p) (tgOk n L s q p)) (lstN q (tgOk n L s q p)) _ HM.out (by exact FG.arg) (by exact FD.arg) (fun _ _ _ _ => rfl) rfl rfl bS bQ bS bQ).mono ?_
    rintro e w22 ⟨rfl, B22⟩
    replace HL := HL.below (below_self B22 rfl rfl rfl rfl)
    replace FD := FD.below (below_self B22 rfl rfl rfl rfl)
    replace FG := FG.below (below_self B22 rfl rfl rfl rfl)
    replace XG := XG.below (below_self B22 rfl rfl rfl rfl)
    replace XW := XW.below (below_self B22 rfl rfl rfl rfl)
    replace XO := XO.below (below_self B22 rfl rfl rfl rfl)
    have Z23 := below_step Z21 B22 rfl rfl rfl rfl
    have XGa := XG.c0
    have XGb := XG.c1
    have XGc := XG.c2
    have XGl := XG.lt
    have XWa := XW.c0
    have XWb := XW.c1
    have XWc := XW.c2
    have XWl := XW.lt
    have XOa := XO.c0
    have XOb := XO.c1
    have XOc := XO.c2
    have XOl := XO.lt
    go_wp2_with fail
    refine (markG_E G (lstN n (tgOk n L s q p)) gc 1 (w9.alloc (.cells #[.slice (some ⟨g2, 0, none⟩) n n, .float .f32 s, .float .f32 q] 42)).heap.size w12.heap.size (lstN (mulV s p) (tgOk n L s q p)) (lstN q (tgOk n L s q p)) (tgX L p) _ HM.out (by omega) (by exact FG)).mono ?_
    rintro e w24 ⟨rfl, K24, FM⟩
    replace FD := FD.only (only_self K24 rfl rfl rfl rfl) (.inl (by omega))
    replace XG := XG.only (only_self K24 rfl rfl rfl rfl) (.inl (by omega))
    replace XW := XW.only (only_self K24 rfl rfl rfl rfl) (.inl (by omega))
    replace XO := XO.only (only_self K24 rfl rfl rfl rfl) (.inr (Nat.le_refl _))
    have Z25 := below_only Z23 K24 (by omega) rfl rfl rfl rfl
    replace HL := HL0.out.below Z25
    clear K24
    have XGa := XG.c0
    have XGb := XG.c1
    have XGc := XG.c2
    have XGl := XG.lt
    have XWa := XW.c0
    have XWb := XW.c1
    have XWc := XW.c2
    have XWl := XW.lt
    have XOa := XO.c0
    have XOb := XO.c1
    have XOc := XO.c2
    have XOl := XO.lt
    clear FG
    go_wp2_with fail
    refine (heldG_E G (lstN n (tgOk n L s q p)) gc 1 _ _ (lstN (mulV s p) (tgOk n L s q p)) (lstN q (tgOk n L s q p)) _ HM.out (by omega) (by exact FM)).mono ?_
    rintro e w26 ⟨rfl, B26⟩
    replace HL := HL.below (below_self B26 rfl rfl rfl rfl)
    replace FD := FD.below (below_self B26 rfl rfl rfl rfl)
    replace FM := FM.below (below_self B26 rfl rfl rfl rfl)
    replace XG := XG.below (below_self B26 rfl rfl rfl rfl)
    replace XW := XW.below (below_self B26 rfl rfl rfl rfl)
    replace XO := XO.below (below_self B26 rfl rfl rfl rfl)
    have Z27 := below_step Z25 B26 rfl rfl rfl rfl
    have XGa := XG.c0
    have XGb := XG.c1
    have XGc := XG.c2
    have XGl := XG.lt
    have XWa := XW.c0
    have XWb := XW.c1
    have XWc := XW.c2
    have XWl := XW.lt
    have XOa := XO.c0
    have XOb := XO.c1
    have XOc := XO.c2
    have XOl := XO.lt
    go_wp2_with fail
    refine (toGround_any A n c L s q _ hl (by exact HL)).mono ?_
    rintro e w28 ⟨g3, rfl, lg3, bg3, Rg3, B28⟩
    replace HL := HL.below (below_self B28 rfl rfl rfl rfl)
    replace FD := FD.below (below_self B28 rfl rfl rfl rfl)
    replace FM := FM.below (below_self B28 rfl rfl rfl rfl)
    replace XG := XG.below (below_self B28 rfl rfl rfl rfl)
    replace XW := XW.below (below_self B28 rfl rfl rfl rfl)
    replace XO := XO.below (below_self B28 rfl rfl rfl rfl)
    have Z29 := below_step Z27 B28 rfl rfl rfl rfl
    have XGa := XG.c0
    have XGb := XG.c1
    have XGc := XG.c2
    have XGl := XG.lt
    have XWa := XW.c0
    have XWb := XW.c1
    have XWc := XW.c2
    have XWl := XW.lt
    have XOa := XO.c0
    have XOb := XO.c1
    have XOc := XO.c2
    have XOl := XO.lt
    have Lg3 := Rg3.arg bg3
    go_wp2_with fail
    refine (implTurnGround_any (some ⟨g3, 0, none⟩) n n L s q p _ hl (by exact Lg3) bs bq bp).mono ?_
    rintro e w30 ⟨H, hc, rfl, HH, B30⟩
    replace HL := HL.below (below_self B30 rfl rfl rfl rfl)
    replace FD := FD.below (below_self B30 rfl rfl rfl rfl)
    replace FM := FM.below (below_self B30 rfl rfl rfl rfl)
    replace Lg3 := Lg3.below (below_self B30 rfl rfl rfl rfl)
    replace XG := XG.below (below_self B30 rfl rfl rfl rfl)
    replace XW := XW.below (below_self B30 rfl rfl rfl rfl)
    replace XO := XO.below (below_self B30 rfl rfl rfl rfl)
    have Z31 := below_step Z29 B30 rfl rfl rfl rfl
    have XGa := XG.c0
    have XGb := XG.c1
    have XGc := XG.c2
    have XGl := XG.lt
    have XWa := XW.c0
    have XWb := XW.c1
    have XWc := XW.c2
    have XWl := XW.lt
    have XOa := XO.c0
    have XOb := XO.c1
    have XOc := XO.c2
    have XOl := XO.lt
    have FH := LOwn.in_ HH.out
    clear HH
    replace HL := HL.below (below_alloc1 w30 (.cells #[.slice H (lstN n (tgOk n L s q p)) hc, .float .f32 (lstN (mulV s p) (tgOk n L s q p)), .float .f32 (lstN q (tgOk n L s q p))] 42))
    replace FD := FD.below (below_alloc1 w30 (.cells #[.slice H (lstN n (tgOk n L s q p)) hc, .float .f32 (lstN (mulV s p) (tgOk n L s q p)), .float .f32 (lstN q (tgOk n L s q p))] 42))
    replace FM := FM.below (below_alloc1 w30 (.cells #[.slice H (lstN n (tgOk n L s q p)) hc, .float .f32 (lstN (mulV s p) (tgOk n L s q p)), .float .f32 (lstN q (tgOk n L s q p))] 42))
    replace Lg3 := Lg3.below (below_alloc1 w30 (.cells #[.slice H (lstN n (tgOk n L s q p)) hc, .float .f32 (lstN (mulV s p) (tgOk n L s q p)), .float .f32 (lstN q (tgOk n L s q p))] 42))
    replace FH := FH.below (below_alloc1 w30 (.cells #[.slice H (lstN n (tgOk n L s q p)) hc, .float .f32 (lstN (mulV s p) (tgOk n L s q p)), .float .f32 (lstN q (tgOk n L s q p))] 42))
    replace XG := XG.below (below_alloc1 w30 (.cells #[.slice H (lstN n (tgOk n L s q p)) hc, .float .f32 (lstN (mulV s p) (tgOk n L s q p)), .float .f32 (lstN q (tgOk n L s q p))] 42))
    replace XW := XW.below (below_alloc1 w30 (.cells #[.slice H (lstN n (tgOk n L s q p)) hc, .float .f32 (lstN (mulV s p) (tgOk n L s q p)), .float .f32 (lstN q (tgOk n L s q p))] 42))
    replace XO := XO.below (below_alloc1 w30 (.cells #[.slice H (lstN n (tgOk n L s q p)) hc, .float .f32 (lstN (mulV s p) (tgOk n L s q p)), .float .f32 (lstN q (tgOk n L s q p))] 42))
    have Z32 := below_step Z31 (below_alloc1 w30 (.cells #[.slice H (lstN n (tgOk n L s q p)) hc, .float .f32 (lstN (mulV s p) (tgOk n L s q p)), .float .f32 (lstN q (tgOk n L s q p))] 42)) rfl rfl rfl rfl
    have XP := GBox.new w30 42 H (lstN n (tgOk n L s q p)) hc (lstN (mulV s p) (tgOk n L s q p)) (lstN q (tgOk n L s q p))
    go_wp2_with fail
    refine (eqGround_any H D (lstN n (tgOk n L s q p)) hc dc (tgX L p) (tgX L p) (lstN (mulV s p) (tgOk n L s q p)) (lstN q (tgOk n L s q p)) (lstN (mulV s p) (tgOk n L s q p)) (lstN q (tgOk n L s q p)) _ HM.out (by exact FH.arg) (by exact FD.arg) (fun _ _ _ _ => rfl) rfl rfl bS bQ bS bQ).mono ?_
    rintro e w33 ⟨rfl, B33⟩
    replace HL := HL.below (below_self B33 rfl rfl rfl rfl)
    replace FD := FD.below (below_self B33 rfl rfl rfl rfl)
    replace FM := FM.below (below_self B33 rfl rfl rfl rfl)
    replace Lg3 := Lg3.below (below_self B33 rfl rfl rfl rfl)
    replace FH := FH.below (below_self B33 rfl rfl rfl rfl)
    replace XG := XG.below (below_self B33 rfl rfl rfl rfl)
    replace XW := XW.below (below_self B33 rfl rfl rfl rfl)
    replace XO := XO.below (below_self B33 rfl rfl rfl rfl)
    replace XP := XP.below (below_self B33 rfl rfl rfl rfl)
    have Z34 := below_step Z32 B33 rfl rfl rfl rfl
    have XGa := XG.c0
    have XGb := XG.c1
    have XGc := XG.c2
    have XGl := XG.lt
    have XWa := XW.c0
    have XWb := XW.c1
    have XWc := XW.c2
    have XWl := XW.lt
    have XOa := XO.c0
    have XOb := XO.c1
    have XOc := XO.c2
    have XOl := XO.lt
    have XPa := XP.c0
    have XPb := XP.c1
    have XPc := XP.c2
    have XPl := XP.lt
    go_wp2_with fail
    refine (heldG_E G (lstN n (tgOk n L s q p)) gc 1 _ _ (lstN (mulV s p) (tgOk n L s q p)) (lstN q (tgOk n L s q p)) _ HM.out (by omega) (by exact FM)).mono ?_
    rintro e w35 ⟨rfl, B35⟩
    replace HL := HL.below (below_self B35 rfl rfl rfl rfl)
    replace FD := FD.below (below_self B35 rfl rfl rfl rfl)
    replace FM := FM.below (below_self B35 rfl rfl rfl rfl)
    replace Lg3 := Lg3.below (below_self B35 rfl rfl rfl rfl)
    replace FH := FH.below (below_self B35 rfl rfl rfl rfl)
    replace XG := XG.below (below_self B35 rfl rfl rfl rfl)
    replace XW := XW.below (below_self B35 rfl rfl rfl rfl)
    replace XO := XO.below (below_self B35 rfl rfl rfl rfl)
    replace XP := XP.below (below_self B35 rfl rfl rfl rfl)
    have Z36 := below_step Z34 B35 rfl rfl rfl rfl
    have XGa := XG.c0
    have XGb := XG.c1
    have XGc := XG.c2
    have XGl := XG.lt
    have XWa := XW.c0
    have XWb := XW.c1
    have XWc := XW.c2
    have XWl := XW.lt
    have XOa := XO.c0
    have XOb := XO.c1
    have XOc := XO.c2
    have XOl := XO.lt
    have XPa := XP.c0
    have XPb := XP.c1
    have XPc := XP.c2
    have XPl := XP.lt
    go_wp2
    go_ret
    exact ⟨rfl, by first | exact Z36 | exact below_drewN Z36 _⟩
  · go_enter Try.func15, Try.ntmps15
    go_wp2_with fail
    refine (szGround_no A n c s q 1048576 _ _hm (by omega)).mono ?_
    rintro e w1 ⟨rfl, B1⟩
    go_wp2
    go_ret
    exact ⟨rfl, below_step (below_alloc1 w _) B1 rfl rfl rfl rfl⟩

theorem facts : joinedFacts Try.prog 15 Try.f15 Rows.fnExactTurnGroundSpec Rows.fnExactTurnGroundRow = true := by
  unfold joinedFacts
  rw [cutMake, cutLifts, cutEnter, cutRowed, cutMaps]
  kernel_rfl
set_option maxRecDepth 100000 in
theorem lifted (os : Os) (started : os.Started) (H : Type) (enc : TypeId × Value → H) :
    ReturnsInHanded {} Try.checked os 15 .any (Rows.fnExactTurnGroundSpec.pre6 enc Try.prog Try.f15 Rows.fnExactTurnGroundRow.domain false) (Rows.fnExactTurnGroundSpec.post enc Try.prog Try.f15 false true false false) := by
  refine returnsInHanded_of_change (C := Try.checked) own started (by kernel_rfl) Try.func15
    (ChangeSpec.witness6 (enc := enc) (C := Try.checked) false ⟨#[], #[.agg #[.slice none 0 0, .float .f32 0, .float .f32 0], .float .f32 0], []⟩ 8 (by kernel_rfl) (by kernel_rfl) (by kernel_rfl) (by kernel_rfl)) ?_
  intro W base args ds gs before hval0 hW hcnd _
  have hval : ∀ (j : Nat) t v, Try.f15.params[j]? = some t → args[j]? = some v → Value.okWide Try.prog W .any base t v := hval0
  have hW' := hW
  obtain ⟨p, q, hA0, hV, rfl, hfz, hnd⟩ := hW
  have hA : DataW.TrodAll enc Try.prog W 0 (fun _ => true) true Try.f15.params.toList args.toList ds p := hA0
  rw [Try.params15] at hA hval
  obtain ⟨v0, vs0, d0, ds0, p0, q0, hargs, rfl, rfl, h0, r0⟩ := trodAll_cons hA
  obtain ⟨v1, vs1, d1, ds1, p1, q1, rfl, rfl, rfl, h1, r1⟩ := trodAll_cons r0
  obtain ⟨rfl, rfl, rfl⟩ := trodAll_nil r1
  obtain rfl : args = #[v0, v1] := by cases args; simp_all
  obtain ⟨rfl, rfl⟩ := trodVars_none hV
  have k0 := h0
  obtain ⟨A0, l0, c0, L0, s0, q0', rfl, m0, H0, b0, b0'⟩ := open_ground Try.underlying37 (by kernel_rfl) (by kernel_rfl) Try.underlying35 Try.underlying101 (by kernel_rfl) (by kernel_rfl) Try.underlying23 Try.underlying23 Try.underlying23 Try.underlying23 Try.underlying23 Try.underlying23 (hval 0 37 v0 rfl rfl) h0
  have k1 := h1
  obtain ⟨a1, rfl, rfl, rfl, w1⟩ := open_float Try.underlying23 (hval 1 23 v1 rfl rfl) h1
  clear hA0 hval0
  refine (walk W A0 l0 c0 L0 s0 q0' m0 H0 b0 b0' a1 w1).mono fun e W' ⟨he, hg⟩ => ?_
  subst he
  exact ⟨_, rfl, post_of_below2 (pv := []) hW' (fun _ _ _ => (trodAll_cons_mk (shut_bool Try.underlying4 _) trodAll_mk0)) (trodAll_cons_mk (Below.trod cutRowed (by kernel_rfl) (of_decide_eq_true (by kernel_rfl)) k0 hg (fun x hx => hW'.lt x (by simp [hx]))) (trodAll_cons_mk (shut_float Try.underlying23 w1) trodAll_mk0)) (fun _ _ => rfl) hg⟩

theorem over : Rows.fnExactTurnGroundRow.holds Try.pinned (OpenSpec.ofChange Rows.fnExactTurnGroundSpec) :=
  OpenClaim.holds_of_wide 15 Try.f15 rfl rfl rfl rfl rfl rfl rfl ⟨rfl, rfl, rfl, rfl, rfl⟩ rfl rfl rfl rfl rfl (by kernel_rfl) Try.func15 facts
    (of_decide_eq_true (by kernel_rfl)) (by unfold Func.isWrapper; rw [if_neg (of_decide_eq_false (by kernel_rfl))]; exact ⟨rfl, rfl⟩)
    (fun os started H enc _ => lifted os started H enc)

theorem holds : Rows.FnExactTurnGroundSaid := over
#print axioms holds
end Go.Proofs.Ytmomgaiondjinaa.fnExactTurnGround
