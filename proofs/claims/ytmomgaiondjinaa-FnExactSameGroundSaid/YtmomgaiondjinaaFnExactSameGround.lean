/- The program's SameGround and the reference's agree at every two grounds. No condition. -/
import Derived.Test.YtmomgaiondjinaaRows
import Derived.WalkKit
import Derived.ProofKit
import Derived.OpenShut
import Derived.Laws.Cover2
import Derived.Test.YtmomgaiondjinaaArg
import Derived.Test.YtmomgaiondjinaaCut
import Derived.Test.YtmomgaiondjinaaSg
namespace Go.Proofs.Ytmomgaiondjinaa.fnExactSameGround
open Go.ChangeShapes Go.WideShapes Go.ChangeAt Go.RowKit Go.Proofs.Ytmomgaiondjinaa.Fl Go.Proofs.Ytmomgaiondjinaa
open Go.ChangeMaps (open_string shut_string)
theorem own : ownKnob Try.prog.godebug = none := by kernel_rfl

set_option maxHeartbeats 4000000 in
set_option maxRecDepth 100000 in
theorem walk (w : World) (A : Option Addr) (n c : Nat) (L : Nat → Nat → Nat) (s q : Nat) (_hm : n ≤ maxLen) (HL : LArg w A n L) (bs : s < 2 ^ 32) (bq : q < 2 ^ 32) (B : Option Addr) (m d : Nat) (M : Nat → Nat → Nat) (s' q' : Nat) (_hm' : m ≤ maxLen) (HK : LArg w B m M) (bs' : s' < 2 ^ 32) (bq' : q' < 2 ^ 32) :
    Calls Try.prog 6 #[.agg #[.slice A n c, .float .f32 s, .float .f32 q], .agg #[.slice B m d, .float .f32 s', .float .f32 q']] w fun e w' => e = .returned (.bool true) ∧ Below w.heap.size w w' := by
  by_cases hl : n ≤ 1048576
  · by_cases hsum : m ≤ 1048576 - n
    · have hm2 : m ≤ 1048576 := by omega
      have hlz : (n : Int) ≤ 1048576 := by omega
      have hmz : (m : Int) ≤ 1048576 := by omega
      have t0 : decide ((((1048576 - n : Nat)) : Int) < 0) = false := decide_eq_false (by omega)
      have t1 : decide ((((1048576 - n - m : Nat)) : Int) < 0) = false := decide_eq_false (by omega)
      go_enter Try.func6, Try.ntmps6
      have HZ := hid (show (w.alloc (.cells #[.slice A n c, .float .f32 s, .float .f32 q] 37)).heap.size = w.heap.size + 1 by simp)
      have Z0 := Below.refl w.heap.size w
      replace HL := HL.below (below_alloc1 w (.cells #[.slice A n c, .float .f32 s, .float .f32 q] 37))
      replace HK := HK.below (below_alloc1 w (.cells #[.slice A n c, .float .f32 s, .float .f32 q] 37))
      have Z1 := below_step Z0 (below_alloc1 w (.cells #[.slice A n c, .float .f32 s, .float .f32 q] 37)) rfl rfl rfl rfl
      have XG := GBox.new w 37 A n c s q
      replace HL := HL.below (below_alloc1 (w.alloc (.cells #[.slice A n c, .float .f32 s, .float .f32 q] 37)) (.cells #[.slice B m d, .float .f32 s', .float .f32 q'] 37))
      replace HK := HK.below (below_alloc1 (w.alloc (.cells #[.slice A n c, .float .f32 s, .float .f32 q] 37)) (.cells #[.slice B m d, .float .f32 s', .float .f32 q'] 37))
      replace XG := XG.below (below_alloc1 (w.alloc (.cells #[.slice A n c, .float .f32 s, .float .f32 q] 37)) (.cells #[.slice B m d, .float .f32 s', .float .f32 q'] 37))
      have Z2 := below_step Z1 (below_alloc1 (w.alloc (.cells #[.slice A n c, .float .f32 s, .float .f32 q] 37)) (.cells #[.slice B m d, .float .f32 s', .float .f32 q'] 37)) rfl rfl rfl rfl
      have XK := GBox.new (w.alloc (.cells #[.slice A n c, .float .f32 s, .float .f32 q] 37)) 37 B m d s' q'
      rw [HZ.out] at XK
      go_wp2_with fail
      refine (szGround_yes A n c s q 1048576 _ (by omega) (by omega)).mono ?_
      rintro e w3 ⟨rfl, B3⟩
      replace HL := HL.below (below_self B3 rfl rfl rfl rfl)
      replace HK := HK.below (below_self B3 rfl rfl rfl rfl)
      replace XG := XG.below (below_self B3 rfl rfl rfl rfl)
      replace XK := XK.below (below_self B3 rfl rfl rfl rfl)
      have Z4 := below_step Z2 B3 rfl rfl rfl rfl
      have XGa := XG.c0
      have XGb := XG.c1
      have XGc := XG.c2
      have XGl := XG.lt
      have XKa := XK.c0
      have XKb := XK.c1
      have XKc := XK.c2
      have XKl := XK.lt
      go_wp2_with fail
      refine (szGround_yes B m d s' q' (1048576 - n) _ hsum (by omega)).mono ?_
      rintro e w5 ⟨rfl, B5⟩
      replace HL := HL.below (below_self B5 rfl rfl rfl rfl)
      replace HK := HK.below (below_self B5 rfl rfl rfl rfl)
      replace XG := XG.below (below_self B5 rfl rfl rfl rfl)
      replace XK := XK.below (below_self B5 rfl rfl rfl rfl)
      have Z6 := below_step Z4 B5 rfl rfl rfl rfl
      have XGa := XG.c0
      have XGb := XG.c1
      have XGc := XG.c2
      have XGl := XG.lt
      have XKa := XK.c0
      have XKb := XK.c1
      have XKc := XK.c2
      have XKl := XK.lt
      go_wp2_with fail
      go_region_held (fun w' => w'.cell? ⟨w.heap.size, 0, none⟩ = some (.slice A n c) ∧ w'.cell? ⟨w.heap.size, 1, none⟩ = some (.float .f32 s) ∧ w'.cell? ⟨w.heap.size, 2, none⟩ = some (.float .f32 q) ∧ w'.cell? ⟨w.heap.size + 1, 0, none⟩ = some (.slice B m d) ∧ w'.cell? ⟨w.heap.size + 1, 1, none⟩ = some (.float .f32 s') ∧ w'.cell? ⟨w.heap.size + 1, 2, none⟩ = some (.float .f32 q')) ((refine ⟨?_, ?_, ?_, ?_, ?_, ?_⟩ <;> first | assumption | exact (Below.cell (by assumption) (by assumption)).trans (by assumption))) (first | (go_at_call 31; refine (specSameGround_any (some ⟨g1, 0, none⟩) (some ⟨h1, 0, none⟩) n m n m L M s q s' q' _ hl hm2 (by exact (Rg1.arg bg1).below (below_self Bb rfl rfl rfl rfl)) (by exact Rh1.arg bh1) bs bq bs' bq').mono ?_; rintro e wc ⟨rfl, Bc⟩; have XG3 := XG2.below (below_self Bc rfl rfl rfl rfl); have XK3 := XK2.below (below_self Bc rfl rfl rfl rfl); obtain ⟨s0, s1, s2, s3⟩ := id XG3; obtain ⟨s4, s5, s6, s7⟩ := id XK3) | (go_at_call 32; have HKa := HK.below (below_self Ba rfl rfl rfl rfl); refine (toGround_any B m d M s' q' _ hm2 (by exact HKa)).mono ?_; rintro e wb ⟨h1, rfl, lh1, bh1, Rh1, Bb⟩; have XG2 := XG1.below (below_self Bb rfl rfl rfl rfl); have XK2 := XK1.below (below_self Bb rfl rfl rfl rfl); obtain ⟨r0, r1, r2, r3⟩ := id XG2; obtain ⟨r4, r5, r6, r7⟩ := id XK2) | (go_at_call 32; refine (toGround_any A n c L s q _ hl (by exact HL)).mono ?_; rintro e wa ⟨g1, rfl, lg1, bg1, Rg1, Ba⟩; have XG1 := XG.below (below_self Ba rfl rfl rfl rfl); have XK1 := XK.below (below_self Ba rfl rfl rfl rfl); obtain ⟨p0, p1, p2, p3⟩ := id XG1; obtain ⟨p4, p5, p6, p7⟩ := id XK1))
      clear HKa XG1 XK1 XG2 XK2 XG3 XK3 p0 p1 p2 p3 p4 p5 p6 p7 r0 r1 r2 r3 r4 r5 r6 r7 s0 s1 s2 s3 s4 s5 s6 s7 Rg1 Rh1
      replace HL := HL.below (below_self Ba rfl rfl rfl rfl)
      replace HK := HK.below (below_self Ba rfl rfl rfl rfl)
      replace XG := XG.below (below_self Ba rfl rfl rfl rfl)
      replace XK := XK.below (below_self Ba rfl rfl rfl rfl)
      have Z7 := below_step Z6 Ba rfl rfl rfl rfl
      have XGa := XG.c0
      have XGb := XG.c1
      have XGc := XG.c2
      have XGl := XG.lt
      have XKa := XK.c0
      have XKb := XK.c1
      have XKc := XK.c2
      have XKl := XK.lt
      replace HL := HL.below (below_self Bb rfl rfl rfl rfl)
      replace HK := HK.below (below_self Bb rfl rfl rfl rfl)
      replace XG := XG.below (below_self Bb rfl rfl rfl rfl)
      replace XK := XK.below (below_self Bb rfl rfl rfl rfl)
      have Z8 := below_step Z7 Bb rfl rfl rfl rfl
      have XGa := XG.c0
      have XGb := XG.c1
      have XGc := XG.c2
      have XGl := XG.lt
      have XKa := XK.c0
      have XKb := XK.c1
      have XKc := XK.c2
      have XKl := XK.lt
      replace HL := HL.below (below_self Bc rfl rfl rfl rfl)
      replace HK := HK.below (below_self Bc rfl rfl rfl rfl)
      replace XG := XG.below (below_self Bc rfl rfl rfl rfl)
      replace XK := XK.below (below_self Bc rfl rfl rfl rfl)
      have Z9 := below_step Z8 Bc rfl rfl rfl rfl
      have XGa := XG.c0
      have XGb := XG.c1
      have XGc := XG.c2
      have XGl := XG.lt
      have XKa := XK.c0
      have XKb := XK.c1
      have XKc := XK.c2
      have XKl := XK.lt
      go_wp2_with fail
      refine (toGround_any A n c L s q _ hl (by exact HL)).mono ?_
      rintro e w10 ⟨g2, rfl, lg2, bg2, Rg2, B10⟩
      replace HL := HL.below (below_self B10 rfl rfl rfl rfl)
      replace HK := HK.below (below_self B10 rfl rfl rfl rfl)
      replace XG := XG.below (below_self B10 rfl rfl rfl rfl)
      replace XK := XK.below (below_self B10 rfl rfl rfl rfl)
      have Z11 := below_step Z9 B10 rfl rfl rfl rfl
      have XGa := XG.c0
      have XGb := XG.c1
      have XGc := XG.c2
      have XGl := XG.lt
      have XKa := XK.c0
      have XKb := XK.c1
      have XKc := XK.c2
      have XKl := XK.lt
      have Lg2 := Rg2.arg bg2
      replace HL := HL.below (below_alloc1 w10 (.cells #[.slice (some ⟨g2, 0, none⟩) n n, .float .f32 s, .float .f32 q] 42))
      replace HK := HK.below (below_alloc1 w10 (.cells #[.slice (some ⟨g2, 0, none⟩) n n, .float .f32 s, .float .f32 q] 42))
      replace Lg2 := Lg2.below (below_alloc1 w10 (.cells #[.slice (some ⟨g2, 0, none⟩) n n, .float .f32 s, .float .f32 q] 42))
      replace XG := XG.below (below_alloc1 w10 (.cells #[.slice (some ⟨g2, 0, none⟩) n n, .float .f32 s, .float .f32 q] 42))
      replace XK := XK.below (below_alloc1 w10 (.cells #[.slice (some ⟨g2, 0, none⟩) n n, .float .f32 s, .float .f32 q] 42))
      have Z12 := below_step Z11 (below_alloc1 w10 (.cells #[.slice (some ⟨g2, 0, none⟩) n n, .float .f32 s, .float .f32 q] 42)) rfl rfl rfl rfl
      have XH := GBox.new w10 42 (some ⟨g2, 0, none⟩) n n s q
      go_wp2_with fail
      refine (toGround_any B m d M s' q' _ hm2 (by exact HK)).mono ?_
      rintro e w13 ⟨h2, rfl, lh2, bh2, Rh2, B13⟩
      replace HL := HL.below (below_self B13 rfl rfl rfl rfl)
      replace HK := HK.below (below_self B13 rfl rfl rfl rfl)
      replace Lg2 := Lg2.below (below_self B13 rfl rfl rfl rfl)
      replace XG := XG.below (below_self B13 rfl rfl rfl rfl)
      replace XK := XK.below (below_self B13 rfl rfl rfl rfl)
      replace XH := XH.below (below_self B13 rfl rfl rfl rfl)
      have Z14 := below_step Z12 B13 rfl rfl rfl rfl
      have XGa := XG.c0
      have XGb := XG.c1
      have XGc := XG.c2
      have XGl := XG.lt
      have XKa := XK.c0
      have XKb := XK.c1
      have XKc := XK.c2
      have XKl := XK.lt
      have XHa := XH.c0
      have XHb := XH.c1
      have XHc := XH.c2
      have XHl := XH.lt
      have Lh2 := Rh2.arg bh2
      replace HL := HL.below (below_alloc1 w13 (.cells #[.slice (some ⟨h2, 0, none⟩) m m, .float .f32 s', .float .f32 q'] 42))
      replace HK := HK.below (below_alloc1 w13 (.cells #[.slice (some ⟨h2, 0, none⟩) m m, .float .f32 s', .float .f32 q'] 42))
      replace Lg2 := Lg2.below (below_alloc1 w13 (.cells #[.slice (some ⟨h2, 0, none⟩) m m, .float .f32 s', .float .f32 q'] 42))
      replace Lh2 := Lh2.below (below_alloc1 w13 (.cells #[.slice (some ⟨h2, 0, none⟩) m m, .float .f32 s', .float .f32 q'] 42))
      replace XG := XG.below (below_alloc1 w13 (.cells #[.slice (some ⟨h2, 0, none⟩) m m, .float .f32 s', .float .f32 q'] 42))
      replace XK := XK.below (below_alloc1 w13 (.cells #[.slice (some ⟨h2, 0, none⟩) m m, .float .f32 s', .float .f32 q'] 42))
      replace XH := XH.below (below_alloc1 w13 (.cells #[.slice (some ⟨h2, 0, none⟩) m m, .float .f32 s', .float .f32 q'] 42))
      have Z15 := below_step Z14 (below_alloc1 w13 (.cells #[.slice (some ⟨h2, 0, none⟩) m m, .float .f32 s', .float .f32 q'] 42)) rfl rfl rfl rfl
      have XJ := GBox.new w13 42 (some ⟨h2, 0, none⟩) m m s' q'
      go_wp2_with fail
      refine (implSameGround_any (some ⟨g2, 0, none⟩) (some ⟨h2, 0, none⟩) n m n m L M s q s' q' _ hl hm2 (by exact Lg2) (by exact Lh2) bs bq bs' bq').mono ?_
      rintro e w16 ⟨rfl, B16⟩
      replace HL := HL.below (below_self B16 rfl rfl rfl rfl)
      replace HK := HK.below (below_self B16 rfl rfl rfl rfl)
      replace Lg2 := Lg2.below (below_self B16 rfl rfl rfl rfl)
      replace Lh2 := Lh2.below (below_self B16 rfl rfl rfl rfl)
      replace XG := XG.below (below_self B16 rfl rfl rfl rfl)
      replace XK := XK.below (below_self B16 rfl rfl rfl rfl)
      replace XH := XH.below (below_self B16 rfl rfl rfl rfl)
      replace XJ := XJ.below (below_self B16 rfl rfl rfl rfl)
      have Z17 := below_step Z15 B16 rfl rfl rfl rfl
      have XGa := XG.c0
      have XGb := XG.c1
      have XGc := XG.c2
      have XGl := XG.lt
      have XKa := XK.c0
      have XKb := XK.c1
      have XKc := XK.c2
      have XKl := XK.lt
      have XHa := XH.c0
      have XHb := XH.c1
      have XHc := XH.c2
      have XHl := XH.lt
      have XJa := XJ.c0
      have XJb := XJ.c1
      have XJc := XJ.c2
      have XJl := XJ.lt
      go_wp2_with fail
      go_region_held (fun w' => w'.cell? ⟨w.heap.size, 0, none⟩ = some (.slice A n c) ∧ w'.cell? ⟨w.heap.size, 1, none⟩ = some (.float .f32 s) ∧ w'.cell? ⟨w.heap.size, 2, none⟩ = some (.float .f32 q) ∧ w'.cell? ⟨w10.heap.size, 0, none⟩ = some (.slice (some ⟨g2, 0, none⟩) n n) ∧ w'.cell? ⟨w10.heap.size, 1, none⟩ = some (.float .f32 s) ∧ w'.cell? ⟨w10.heap.size, 2, none⟩ = some (.float .f32 q)) ((refine ⟨?_, ?_, ?_, ?_, ?_, ?_⟩ <;> first | assumption | exact (Below.cell (by assumption) (by assumption)).trans (by assumption))) (first | ((go_at_call 32; refine (toGround_any A n c L s q _ hl (by exact HL)).mono ?_; rintro e w18 ⟨ge18, rfl, le18, be18, Re18, B18⟩; obtain ⟨p0, p1, p2, p3⟩ := XG.below (below_self B18 rfl rfl rfl rfl); obtain ⟨p4, p5, p6, p7⟩ := XH.below (below_self B18 rfl rfl rfl rfl))) | ((go_at_call 34; refine (eqGround_any _ _ n n n L L s q s q _ hl (by exact Lg2.below (below_self B18 rfl rfl rfl rfl)) (by exact Re18.arg be18) (fun _ _ _ _ => rfl) rfl rfl (by assumption) (by assumption) (by assumption) (by assumption)).mono ?_; rintro e w18x ⟨rfl, B18x⟩)))
      clear p0 p1 p2 p3 p4 p5 p6 p7
      replace HL := HL.below (below_self B18 rfl rfl rfl rfl)
      replace HK := HK.below (below_self B18 rfl rfl rfl rfl)
      replace Lg2 := Lg2.below (below_self B18 rfl rfl rfl rfl)
      replace Lh2 := Lh2.below (below_self B18 rfl rfl rfl rfl)
      replace XG := XG.below (below_self B18 rfl rfl rfl rfl)
      replace XK := XK.below (below_self B18 rfl rfl rfl rfl)
      replace XH := XH.below (below_self B18 rfl rfl rfl rfl)
      replace XJ := XJ.below (below_self B18 rfl rfl rfl rfl)
      have Z19 := below_step Z17 B18 rfl rfl rfl rfl
      have XGa := XG.c0
      have XGb := XG.c1
      have XGc := XG.c2
      have XGl := XG.lt
      have XKa := XK.c0
      have XKb := XK.c1
      have XKc := XK.c2
      have XKl := XK.lt
      have XHa := XH.c0
      have XHb := XH.c1
      have XHc := XH.c2
      have XHl := XH.lt
      have XJa := XJ.c0
      have XJb := XJ.c1
      have XJc := XJ.c2
      have XJl := XJ.lt
      replace HL := HL.below (below_self B18x rfl rfl rfl rfl)
      replace HK := HK.below (below_self B18x rfl rfl rfl rfl)
      replace Lg2 := Lg2.below (below_self B18x rfl rfl rfl rfl)
      replace Lh2 := Lh2.below (below_self B18x rfl rfl rfl rfl)
      replace XG := XG.below (below_self B18x rfl rfl rfl rfl)
      replace XK := XK.below (below_self B18x rfl rfl rfl rfl)
      replace XH := XH.below (below_self B18x rfl rfl rfl rfl)
      replace XJ := XJ.below (below_self B18x rfl rfl rfl rfl)
      have Z20 := below_step Z19 B18x rfl rfl rfl rfl
      have XGa := XG.c0
      have XGb := XG.c1
      have XGc := XG.c2
      have XGl := XG.lt
      have XKa := XK.c0
      have XKb := XK.c1
      have XKc := XK.c2
      have XKl := XK.lt
      have XHa := XH.c0
      have XHb := XH.c1
      have XHc := XH.c2
      have XHl := XH.lt
      have XJa := XJ.c0
      have XJb := XJ.c1
      have XJc := XJ.c2
      have XJl := XJ.lt
      go_wp2_with fail
      go_region_held (fun w' => w'.cell? ⟨w.heap.size + 1, 0, none⟩ = some (.slice B m d) ∧ w'.cell? ⟨w.heap.size + 1, 1, none⟩ = some (.float .f32 s') ∧ w'.cell? ⟨w.heap.size + 1, 2, none⟩ = some (.float .f32 q') ∧ w'.cell? ⟨w13.heap.size, 0, none⟩ = some (.slice (some ⟨h2, 0, none⟩) m m) ∧ w'.cell? ⟨w13.heap.size, 1, none⟩ = some (.float .f32 s') ∧ w'.cell? ⟨w13.heap.size, 2, none⟩ = some (.float .f32 q')) ((refine ⟨?_, ?_, ?_, ?_, ?_, ?_⟩ <;> first | assumption | exact (Below.cell (by assumption) (by assumption)).trans (by assumption))) (first | ((go_at_call 32; refine (toGround_any B m d M s' q' _ hm2 (by exact HK)).mono ?_; rintro e w21 ⟨ge21, rfl, le21, be21, Re21, B21⟩; obtain ⟨p0, p1, p2, p3⟩ := XK.below (below_self B21 rfl rfl rfl rfl); obtain ⟨p4, p5, p6, p7⟩ := XJ.below (below_self B21 rfl rfl rfl rfl))) | ((go_at_call 34; refine (eqGround_any _ _ m m m M M s' q' s' q' _ hm2 (by exact Lh2.below (below_self B21 rfl rfl rfl rfl)) (by exact Re21.arg be21) (fun _ _ _ _ => rfl) rfl rfl (by assumption) (by assumption) (by assumption) (by assumption)).mono ?_; rintro e w21x ⟨rfl, B21x⟩)))
      all_goals
        go_wp2
        go_ret
        exact ⟨rfl, below_step (below_step Z20 B21 rfl rfl rfl rfl) B21x rfl rfl rfl rfl⟩
    · go_enter Try.func6, Try.ntmps6
      have t0 : decide ((((1048576 - n : Nat)) : Int) < 0) = false := decide_eq_false (by omega)
      have Z0 := below_up (below_alloc1 w (.cells #[.slice A n c, .float .f32 s, .float .f32 q] 37)) (.cells #[.slice B m d, .float .f32 s', .float .f32 q'] 37)
      have XK := GBox.new (w.alloc (.cells #[.slice A n c, .float .f32 s, .float .f32 q] 37)) 37 B m d s' q'
      have HZ := hid (show (w.alloc (.cells #[.slice A n c, .float .f32 s, .float .f32 q] 37)).heap.size = w.heap.size + 1 by simp)
      rw [HZ.out] at XK
      go_wp2_with fail
      refine (szGround_yes A n c s q 1048576 _ (by omega) (by omega)).mono ?_
      rintro e w1 ⟨rfl, B1⟩
      have Z1 := below_step Z0 B1 rfl rfl rfl rfl
      have XK := XK.below (below_self B1 rfl rfl rfl rfl)
      have XKa := XK.c0
      have XKb := XK.c1
      have XKc := XK.c2
      go_wp2_with fail
      refine (szGround_no B m d s' q' (1048576 - n) _ _hm' (by omega)).mono ?_
      rintro e w2 ⟨rfl, B2⟩
      go_wp2
      go_ret
      exact ⟨rfl, below_step Z1 B2 rfl rfl rfl rfl⟩
  · go_enter Try.func6, Try.ntmps6
    go_wp2_with fail
    refine (szGround_no A n c s q 1048576 _ _hm (by omega)).mono ?_
    rintro e w1 ⟨rfl, B1⟩
    go_wp2
    go_ret
    exact ⟨rfl, below_step (below_up (below_alloc1 w _) _) B1 rfl rfl rfl rfl⟩

theorem facts : joinedFacts Try.prog 6 Try.f6 Rows.fnExactSameGroundSpec Rows.fnExactSameGroundRow = true := by
  unfold joinedFacts
  rw [cutMake, cutLifts, cutEnter, cutRowed, cutMaps]
  kernel_rfl
set_option maxRecDepth 100000 in
theorem lifted (os : Os) (started : os.Started) (H : Type) (enc : TypeId × Value → H) :
    ReturnsInHanded {} Try.checked os 6 .any (Rows.fnExactSameGroundSpec.pre6 enc Try.prog Try.f6 Rows.fnExactSameGroundRow.domain false) (Rows.fnExactSameGroundSpec.post enc Try.prog Try.f6 false true false false) := by
  refine returnsInHanded_of_change (C := Try.checked) own started (by kernel_rfl) Try.func6
    (ChangeSpec.witness6 (enc := enc) (C := Try.checked) false ⟨#[], #[.agg #[.slice none 0 0, .float .f32 0, .float .f32 0], .agg #[.slice none 0 0, .float .f32 0, .float .f32 0]], []⟩ 8 (by kernel_rfl) (by kernel_rfl) (by kernel_rfl) (by kernel_rfl)) ?_
  intro W base args ds gs before hval0 hW hcnd _
  have hval : ∀ (j : Nat) t v, Try.f6.params[j]? = some t → args[j]? = some v → Value.okWide Try.prog W .any base t v := hval0
  have hW' := hW
  obtain ⟨p, q, hA0, hV, rfl, hfz, hnd⟩ := hW
  have hA : DataW.TrodAll enc Try.prog W 0 (fun _ => true) true Try.f6.params.toList args.toList ds p := hA0
  rw [Try.params6] at hA hval
  obtain ⟨v0, vs0, d0, ds0, p0, q0, hargs, rfl, rfl, h0, r0⟩ := trodAll_cons hA
  obtain ⟨v1, vs1, d1, ds1, p1, q1, rfl, rfl, rfl, h1, r1⟩ := trodAll_cons r0
  obtain ⟨rfl, rfl, rfl⟩ := trodAll_nil r1
  obtain rfl : args = #[v0, v1] := by cases args; simp_all
  obtain ⟨rfl, rfl⟩ := trodVars_none hV
  have k0 := h0
  obtain ⟨A0, l0, c0, L0, s0, q0', rfl, m0, H0, b0, b0'⟩ := open_ground Try.underlying37 (by kernel_rfl) (by kernel_rfl) Try.underlying35 Try.underlying101 (by kernel_rfl) (by kernel_rfl) Try.underlying23 Try.underlying23 Try.underlying23 Try.underlying23 Try.underlying23 Try.underlying23 (hval 0 37 v0 rfl rfl) h0
  have k1 := h1
  obtain ⟨A1, l1, c1, L1, s1, q1', rfl, m1, H1, b1, b1'⟩ := open_ground Try.underlying37 (by kernel_rfl) (by kernel_rfl) Try.underlying35 Try.underlying101 (by kernel_rfl) (by kernel_rfl) Try.underlying23 Try.underlying23 Try.underlying23 Try.underlying23 Try.underlying23 Try.underlying23 (hval 1 37 v1 rfl rfl) h1
  clear hA0 hval0
  refine (walk W A0 l0 c0 L0 s0 q0' m0 H0 b0 b0' A1 l1 c1 L1 s1 q1' m1 H1 b1 b1').mono fun e W' ⟨he, hg⟩ => ?_
  subst he
  exact ⟨_, rfl, post_of_below2 (pv := []) hW' (fun _ _ _ => (trodAll_cons_mk (shut_bool Try.underlying4 _) trodAll_mk0)) (trodAll_cons_mk (Below.trod cutRowed (by kernel_rfl) (of_decide_eq_true (by kernel_rfl)) k0 hg (fun x hx => hW'.lt x (by simp [hx]))) (trodAll_cons_mk (Below.trod cutRowed (by kernel_rfl) (of_decide_eq_true (by kernel_rfl)) k1 hg (fun x hx => hW'.lt x (by simp [hx]))) trodAll_mk0)) (fun _ _ => rfl) hg⟩

theorem over : Rows.fnExactSameGroundRow.holds Try.pinned (OpenSpec.ofChange Rows.fnExactSameGroundSpec) :=
  OpenClaim.holds_of_wide 6 Try.f6 rfl rfl rfl rfl rfl rfl rfl ⟨rfl, rfl, rfl, rfl, rfl⟩ rfl rfl rfl rfl rfl (by kernel_rfl) Try.func6 facts
    (of_decide_eq_true (by kernel_rfl)) (by unfold Func.isWrapper; rw [if_neg (of_decide_eq_false (by kernel_rfl))]; exact ⟨rfl, rfl⟩)
    (fun os started H enc _ => lifted os started H enc)

theorem holds : Rows.FnExactSameGroundSaid := over
#print axioms holds
end Go.Proofs.Ytmomgaiondjinaa.fnExactSameGround
