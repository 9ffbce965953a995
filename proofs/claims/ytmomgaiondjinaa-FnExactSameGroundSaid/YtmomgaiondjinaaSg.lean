/- Are two grounds the same: of the reference and of the program. No condition. -/
import Derived.Test.YtmomgaiondjinaaGnd
import Derived.Test.YtmomgaiondjinaaBits
import Derived.Test.YtmomgaiondjinaaVali
import Derived.Deep.QuietTactic
import Derived.BigQuiet
namespace Go.Proofs.Ytmomgaiondjinaa
open Go.RowKit Go.Proofs.Ytmomgaiondjinaa.Fl
def smB (x y : Nat) : Bool := bitsV x == bitsV y
theorem below_up {a b : World} (h : Below a.heap.size a b) (o : Obj) : Below a.heap.size a (b.alloc o) := h.alloc h.size o
def lsB (x0 x1 x2 x3 y0 y1 y2 y3 : Nat) : Bool := smB x0 y0 && (smB x1 y1 && (smB x2 y2 && smB x3 y3))
def rowB (L M : Nat → Nat → Nat) (i : Nat) : Bool := lsB (L i 0) (L i 1) (L i 2) (L i 3) (M i 0) (M i 1) (M i 2) (M i 3)
def rowsB (n : Nat) (L M : Nat → Nat → Nat) : Bool := (List.range n).all (rowB L M)
theorem rows_of {n : Nat} {L M : Nat → Nat → Nat} (h : ∀ j, j < n → rowB L M j = true) : rowsB n L M = true := by
  unfold rowsB; rw [List.all_eq_true]; intro x hx; exact h x (List.mem_range.1 hx)
theorem rows_no {n k : Nat} {L M : Nat → Nat → Nat} (hk : k < n) (h : rowB L M k = false) : rowsB n L M = false := by
  unfold rowsB; rw [List.all_eq_false]; exact ⟨k, List.mem_range.2 hk, by rw [h]; decide⟩
theorem row_step {k : Nat} {L M : Nat → Nat → Nat} (h : ∀ j, j < k → rowB L M j = true) (hk : rowB L M k = true) : ∀ j, j < k + 1 → rowB L M j = true := fun j hj => by
  by_cases e : j = k
  · rw [e]; exact hk
  · exact h j (by omega)
def gsB (n m : Nat) (L M : Nat → Nat → Nat) (s q s' q' : Nat) : Bool := decide (n = m) && (smB s s' && (smB q q' && rowsB n L M))
theorem specSame_any (x y : Nat) (hx : x < 2 ^ 32) (hy : y < 2 ^ 32) (w : World) :
    Calls Try.prog 74 #[.float .f32 x, .float .f32 y] w fun e w' => e = .returned (.bool (smB x y)) ∧ w = w' := by
  have HX := hid hx
  have HY := hid hy
  clear hx hy
  go_enter Try.func74, Try.ntmps74
  go_wp2_with (go_at_call 116; refine (specBits_any _ (by first | exact HX.out | exact HY.out) _).mono ?_; rintro e w1 ⟨rfl, rfl⟩)
  go_ret
  exact ⟨rfl, rfl⟩
theorem implSame_any (x y : Nat) (hx : x < 2 ^ 32) (hy : y < 2 ^ 32) (w : World) :
    Calls Try.prog 76 #[.float .f32 x, .float .f32 y] w fun e w' => e = .returned (.bool (smB x y)) ∧ w = w' := by
  have HX := hid hx
  have HY := hid hy
  clear hx hy
  go_enter Try.func76, Try.ntmps76
  go_wp2_with (go_at_call 118; refine (implBits_any _ (by first | exact HX.out | exact HY.out) _).mono ?_; rintro e w1 ⟨rfl, rfl⟩)
  go_ret
  exact ⟨rfl, rfl⟩
theorem specSame_q (x y : Nat) (hx : x < 2 ^ 32) (hy : y < 2 ^ 32) (w : World) :
    Calls Try.prog 74 #[.float .f32 x, .float .f32 y] w fun e w' => e = .returned (.bool (smB x y)) ∧ w' = w := (specSame_any x y hx hy w).mono fun _ _ ⟨he, hw⟩ => ⟨he, hw.symm⟩
theorem lsB_cases (x0 x1 x2 x3 y0 y1 y2 y3 : Nat) : (smB x0 y0 = false ∧ lsB x0 x1 x2 x3 y0 y1 y2 y3 = false) ∨ (smB x0 y0 = true ∧ smB x1 y1 = false ∧ lsB x0 x1 x2 x3 y0 y1 y2 y3 = false) ∨ (smB x0 y0 = true ∧ smB x1 y1 = true ∧ smB x2 y2 = false ∧ lsB x0 x1 x2 x3 y0 y1 y2 y3 = false) ∨ (smB x0 y0 = true ∧ smB x1 y1 = true ∧ smB x2 y2 = true ∧ smB x3 y3 = false ∧ lsB x0 x1 x2 x3 y0 y1 y2 y3 = false) ∨ (smB x0 y0 = true ∧ smB x1 y1 = true ∧ smB x2 y2 = true ∧ smB x3 y3 = true ∧ lsB x0 x1 x2 x3 y0 y1 y2 y3 = true) := by
  unfold lsB
  cases smB x0 y0 <;> cases smB x1 y1 <;> cases smB x2 y2 <;> cases smB x3 y3 <;> simp
set_option maxHeartbeats 1000000 in
set_option maxRecDepth 100000 in
theorem closure_any (x0 x1 x2 x3 y0 y1 y2 y3 : Nat) (w : World) (hb : x0 < 2 ^ 32 ∧ x1 < 2 ^ 32 ∧ x2 < 2 ^ 32 ∧ x3 < 2 ^ 32 ∧ y0 < 2 ^ 32 ∧ y1 < 2 ^ 32 ∧ y2 < 2 ^ 32 ∧ y3 < 2 ^ 32) :
    Calls Try.prog 78 #[.agg #[.float .f32 x0, .float .f32 x1, .float .f32 x2, .float .f32 x3], .agg #[.float .f32 y0, .float .f32 y1, .float .f32 y2, .float .f32 y3]] w fun e w' => e = .returned (.bool (lsB x0 x1 x2 x3 y0 y1 y2 y3)) ∧ Below w.heap.size w w' := by
  have HB := hid hb
  have hst : ∀ a b : Obj, Below w.heap.size w ((w.alloc a).alloc b) := fun a b => ((Below.refl _ _).alloc (Nat.le_refl _) _).alloc (by simp) _
  clear hb
  rcases lsB_cases x0 x1 x2 x3 y0 y1 y2 y3 with ⟨g0, hl⟩ | ⟨g0, g1, hl⟩ | ⟨g0, g1, g2, hl⟩ | ⟨g0, g1, g2, g3, hl⟩ | ⟨g0, g1, g2, g3, hl⟩
  · rw [hl]
    have G0 := hid g0
    clear hl g0
    go_enter Try.func78, Try.ntmps78
    go_wp2_with (go_at_call 76; refine (implSame_any _ _ (by first | exact HB.out.1 | exact HB.out.2.1 | exact HB.out.2.2.1 | exact HB.out.2.2.2.1) (by first | exact HB.out.2.2.2.2.1 | exact HB.out.2.2.2.2.2.1 | exact HB.out.2.2.2.2.2.2.1 | exact HB.out.2.2.2.2.2.2.2) _).mono ?_; rintro e w1 ⟨rfl, rfl⟩; first | rw [G0.out] | rw [G1.out] | rw [G2.out] | rw [G3.out])
    go_ret
    exact ⟨rfl, hst _ _⟩
  · rw [hl]
    have G0 := hid g0
    have G1 := hid g1
    clear hl g0 g1
    go_enter Try.func78, Try.ntmps78
    go_wp2_with (go_at_call 76; refine (implSame_any _ _ (by first | exact HB.out.1 | exact HB.out.2.1 | exact HB.out.2.2.1 | exact HB.out.2.2.2.1) (by first | exact HB.out.2.2.2.2.1 | exact HB.out.2.2.2.2.2.1 | exact HB.out.2.2.2.2.2.2.1 | exact HB.out.2.2.2.2.2.2.2) _).mono ?_; rintro e w1 ⟨rfl, rfl⟩; first | rw [G0.out] | rw [G1.out] | rw [G2.out] | rw [G3.out])
    go_ret
    exact ⟨rfl, hst _ _⟩
  · rw [hl]
    have G0 := hid g0
    have G1 := hid g1
    have G2 := hid g2
    clear hl g0 g1 g2
    go_enter Try.func78, Try.ntmps78
    go_wp2_with (go_at_call 76; refine (implSame_any _ _ (by first | exact HB.out.1 | exact HB.out.2.1 | exact HB.out.2.2.1 | exact HB.out.2.2.2.1) (by first | exact HB.out.2.2.2.2.1 | exact HB.out.2.2.2.2.2.1 | exact HB.out.2.2.2.2.2.2.1 | exact HB.out.2.2.2.2.2.2.2) _).mono ?_; rintro e w1 ⟨rfl, rfl⟩; first | rw [G0.out] | rw [G1.out] | rw [G2.out] | rw [G3.out])
    go_ret
    exact ⟨rfl, hst _ _⟩
  · rw [hl]
    have G0 := hid g0
    have G1 := hid g1
    have G2 := hid g2
    have G3 := hid g3
    clear hl g0 g1 g2 g3
    go_enter Try.func78, Try.ntmps78
    go_wp2_with (go_at_call 76; refine (implSame_any _ _ (by first | exact HB.out.1 | exact HB.out.2.1 | exact HB.out.2.2.1 | exact HB.out.2.2.2.1) (by first | exact HB.out.2.2.2.2.1 | exact HB.out.2.2.2.2.2.1 | exact HB.out.2.2.2.2.2.2.1 | exact HB.out.2.2.2.2.2.2.2) _).mono ?_; rintro e w1 ⟨rfl, rfl⟩; first | rw [G0.out] | rw [G1.out] | rw [G2.out] | rw [G3.out])
    go_ret
    exact ⟨rfl, hst _ _⟩
  · rw [hl]
    have G0 := hid g0
    have G1 := hid g1
    have G2 := hid g2
    have G3 := hid g3
    clear hl g0 g1 g2 g3
    go_enter Try.func78, Try.ntmps78
    go_wp2_with (go_at_call 76; refine (implSame_any _ _ (by first | exact HB.out.1 | exact HB.out.2.1 | exact HB.out.2.2.1 | exact HB.out.2.2.2.1) (by first | exact HB.out.2.2.2.2.1 | exact HB.out.2.2.2.2.2.1 | exact HB.out.2.2.2.2.2.2.1 | exact HB.out.2.2.2.2.2.2.2) _).mono ?_; rintro e w1 ⟨rfl, rfl⟩; first | rw [G0.out] | rw [G1.out] | rw [G2.out] | rw [G3.out])
    go_ret
    exact ⟨rfl, hst _ _⟩
set_option maxHeartbeats 1000000 in
set_option maxRecDepth 100000 in
theorem equalF_any (A B : Option Addr) (n m ca cb : Nat) (L M : Nat → Nat → Nat) (w : World) (hn : n ≤ 1048576) (hm : m ≤ 1048576) (ha : LArg w A n L) (hb : LArg w B m M) :
    Calls Try.prog 77 #[.slice A n ca, .slice B m cb, .func (.func 78) #[] #[]] w fun e w' => e = .returned (.bool (decide (n = m) && rowsB n L M)) ∧ Below w.heap.size w w' := by
  have hnz : (n : Int) ≤ 1048576 := by omega
  have hmz : (m : Int) ≤ 1048576 := by omega
  have HA := hid ha
  have HB := hid hb
  clear ha hb
  by_cases hnm : n = m
  · subst hnm
    have HD : Hid (decide (n = n) = true) := by unfold Hid; simp
    go_enter Try.func77, Try.ntmps77
    go_wp2
    go_loopw [17] (fun i wr => ∃ k : Nat, k ≤ n ∧ i = .int .i64 k ∧ Hid (∀ j, j < k → rowB L M j = true) ∧ Below w.heap.size w wr) (fun i _ => n - (intOf i).toNat)
    case atStart => exact ⟨0, Nat.zero_le _, rfl, fun j hj => absurd hj (Nat.not_lt_zero _), Below.refl _ _⟩
    case round =>
      obtain ⟨k, hk, rfl, hall, hbl⟩ := hrel
      by_cases hlt : k < n
      · obtain ⟨ab, ao, x0, x1, x2, x3, rfl, hab, c0, c1, c2, c3, e0, e1, e2, e3, a0, a1, a2, a3⟩ := (HA.out.below hbl).get hlt
        obtain ⟨bb, bo, y0, y1, y2, y3, rfl, hbb, d0, d1, d2, d3, f0, f1, f2, f3, b0, b1, b2, b3⟩ := (HB.out.below hbl).get hlt
        have HV := fun w => hid (closure_any x0 x1 x2 x3 y0 y1 y2 y3 w ⟨a0, a1, a2, a3, b0, b1, b2, b3⟩)
        have hl : rowB L M k = lsB x0 x1 x2 x3 y0 y1 y2 y3 := by rw [e0, e1, e2, e3, f0, f1, f2, f3]; rfl
        have HL := hid hl
        have hA1 := below_up hbl (.cells #[.float .f32 x0, .float .f32 x1, .float .f32 x2, .float .f32 x3] 70)
        have hA2 := below_up hA1 (.cells #[.float .f32 y0, .float .f32 y1, .float .f32 y2, .float .f32 y3] 70)
        have i1 : (0 : Int) ≤ (k : Int) := by omega
        have i2 : (k : Int) < (n : Int) := by omega
        have nb : bb ≠ wr.heap.size := by omega
        clear hl e0 e1 e2 e3 f0 f1 f2 f3 a0 a1 a2 a3 b0 b1 b2 b3
        cases hf : lsB x0 x1 x2 x3 y0 y1 y2 y3
        · have HF := hid hf
          have HN := hid (rows_no hlt (HL.out.trans hf))
          clear hf
          go_wp2_with (go_at_call 78; refine ((HV _).out).mono ?_; rintro e w1 ⟨rfl, hb1⟩; rw [HF.out])
          go_ret
          exact ⟨by rw [HN.out]; simp, below_step hA2 hb1 rfl rfl rfl rfl⟩
        · have HF := hid hf
          have HN := hid (row_step hall.out (HL.out.trans hf))
          clear hf
          go_wp2_with (go_at_call 78; refine ((HV _).out).mono ?_; rintro e w1 ⟨rfl, hb1⟩; rw [HF.out])
          go_roundw
          case rel => exact ⟨k + 1, by omega, by go_num, HN, below_step hA2 hb1 rfl rfl rfl rfl⟩
          case measure => simp [intOf]; omega
      · obtain rfl : k = n := by omega
        have HN := hid (rows_of hall.out)
        go_wp2
        go_ret
        exact ⟨by rw [HN.out, HD.out]; rfl, hbl⟩
  · have HD : Hid (decide (n = m) = false) := by unfold Hid; simp [hnm]
    have n1 : ((n : Int) != (m : Int)) = true := by simp; omega
    have n2 : ((n : Int) == (m : Int)) = false := by simp; omega
    clear hnm
    go_enter Try.func77, Try.ntmps77
    go_wp2
    go_ret
    exact ⟨by rw [HD.out]; rfl, Below.refl _ _⟩
set_option maxHeartbeats 1000000 in
set_option maxRecDepth 100000 in
theorem implSameGround_any (A B : Option Addr) (n m ca cb : Nat) (L M : Nat → Nat → Nat) (s q s' q' : Nat) (w : World) (hn : n ≤ 1048576) (hm : m ≤ 1048576) (ha : LArg w A n L) (hb : LArg w B m M) (b0 : s < 2 ^ 32) (b1 : q < 2 ^ 32) (b2 : s' < 2 ^ 32) (b3 : q' < 2 ^ 32) :
    Calls Try.prog 33 #[.agg #[.slice A n ca, .float .f32 s, .float .f32 q], .agg #[.slice B m cb, .float .f32 s', .float .f32 q']] w fun e w' => e = .returned (.bool (gsB n m L M s q s' q')) ∧ Below w.heap.size w w' := by
  have hnz : (n : Int) ≤ 1048576 := by omega
  have hmz : (m : Int) ≤ 1048576 := by omega
  have hst := below_up (below_alloc1 w (.cells #[.slice A n ca, .float .f32 s, .float .f32 q] 42)) (.cells #[.slice B m cb, .float .f32 s', .float .f32 q'] 42)
  have XG := (GBox.new w 42 A n ca s q).below (below_alloc1 _ (.cells #[.slice B m cb, .float .f32 s', .float .f32 q'] 42))
  have XK := GBox.new (w.alloc (.cells #[.slice A n ca, .float .f32 s, .float .f32 q] 42)) 42 B m cb s' q'
  have HL := hid (ha.below hst)
  have HK := hid (hb.below hst)
  have HQ := hid (And.intro b0 (And.intro b1 (And.intro b2 b3)))
  clear ha hb b0 b1 b2 b3
  cases h0 : smB s s'
  · have GS := hid h0
    have H : Hid (gsB n m L M s q s' q' = false) := by unfold Hid gsB; rw [h0]; simp
    clear h0
    go_enter Try.func33, Try.ntmps33
    go_wp2_with (go_at_call 76; refine (implSame_any _ _ (by first | exact HQ.out.1 | exact HQ.out.2.1) (by first | exact HQ.out.2.2.1 | exact HQ.out.2.2.2) _).mono ?_; rintro e w1 ⟨rfl, rfl⟩; first | rw [GS.out] | rw [GQ.out])
    go_ret
    exact ⟨by rw [H.out]; rfl, hst⟩
  · have GS := hid h0
    cases h1 : smB q q'
    · have GQ := hid h1
      have H : Hid (gsB n m L M s q s' q' = false) := by unfold Hid gsB; rw [h1]; simp
      clear h0 h1
      go_enter Try.func33, Try.ntmps33
      go_wp2_with (go_at_call 76; refine (implSame_any _ _ (by first | exact HQ.out.1 | exact HQ.out.2.1) (by first | exact HQ.out.2.2.1 | exact HQ.out.2.2.2) _).mono ?_; rintro e w1 ⟨rfl, rfl⟩; first | rw [GS.out] | rw [GQ.out])
      go_ret
      exact ⟨by rw [H.out]; rfl, hst⟩
    · have GQ := hid h1
      have H : Hid (gsB n m L M s q s' q' = (decide (n = m) && rowsB n L M)) := by unfold Hid gsB; rw [h0, h1]; simp
      have HN := hid hn
      have HM := hid hm
      clear h0 h1
      go_enter Try.func33, Try.ntmps33
      go_wp2_with (first | (go_at_call 76; refine (implSame_any _ _ (by first | exact HQ.out.1 | exact HQ.out.2.1) (by first | exact HQ.out.2.2.1 | exact HQ.out.2.2.2) _).mono ?_; rintro e w1 ⟨rfl, rfl⟩; first | rw [GS.out] | rw [GQ.out]) | (go_at_call 77; refine (equalF_any A B n m ca cb L M _ HN.out HM.out (by exact HL.out) (by exact HK.out)).mono ?_; rintro e w1 ⟨rfl, B1⟩; have hb := below_step hst B1 rfl rfl rfl rfl))
      go_ret
      exact ⟨by rw [H.out]; rfl, hb⟩
set_option maxHeartbeats 4000000 in
set_option maxRecDepth 100000 in
theorem specSameGround_any (A B : Option Addr) (n m ca cb : Nat) (L M : Nat → Nat → Nat) (s q s' q' : Nat) (w : World) (hn : n ≤ 1048576) (hm : m ≤ 1048576) (ha : LArg w A n L) (hb : LArg w B m M) (b0 : s < 2 ^ 32) (b1 : q < 2 ^ 32) (b2 : s' < 2 ^ 32) (b3 : q' < 2 ^ 32) :
    Calls Try.prog 31 #[.agg #[.slice A n ca, .float .f32 s, .float .f32 q], .agg #[.slice B m cb, .float .f32 s', .float .f32 q']] w fun e w' => e = .returned (.bool (gsB n m L M s q s' q')) ∧ Below w.heap.size w w' := by
  have hnz : (n : Int) ≤ 1048576 := by omega
  have hmz : (m : Int) ≤ 1048576 := by omega
  have hst := below_up (below_alloc1 w (.cells #[.slice A n ca, .float .f32 s, .float .f32 q] 42)) (.cells #[.slice B m cb, .float .f32 s', .float .f32 q'] 42)
  have XG := (GBox.new w 42 A n ca s q).below (below_alloc1 _ (.cells #[.slice B m cb, .float .f32 s', .float .f32 q'] 42))
  have XK := GBox.new (w.alloc (.cells #[.slice A n ca, .float .f32 s, .float .f32 q] 42)) 42 B m cb s' q'
  have HL := hid (ha.below hst)
  have HK := hid (hb.below hst)
  have HQ := hid (And.intro b0 (And.intro b1 (And.intro b2 b3)))
  clear ha hb b0 b1 b2 b3
  by_cases hnm : n = m
  · subst hnm
    cases h0 : smB s s'
    · have GS := hid h0
      have H : Hid (gsB n n L M s q s' q' = false) := by unfold Hid gsB; rw [h0]; simp
      clear h0
      go_enter Try.func31, Try.ntmps31
      go_wp2_with (go_at_call 74; refine (specSame_any _ _ (by first | exact HQ.out.1 | exact HQ.out.2.1) (by first | exact HQ.out.2.2.1 | exact HQ.out.2.2.2) _).mono ?_; rintro e w1 ⟨rfl, rfl⟩; first | rw [GS.out] | rw [GQ.out])
      go_ret
      exact ⟨by rw [H.out]; rfl, hst⟩
    · have GS := hid h0
      cases h1 : smB q q'
      · have GQ := hid h1
        have H : Hid (gsB n n L M s q s' q' = false) := by unfold Hid gsB; rw [h1]; simp
        clear h0 h1
        go_enter Try.func31, Try.ntmps31
        go_wp2_with (go_at_call 74; refine (specSame_any _ _ (by first | exact HQ.out.1 | exact HQ.out.2.1) (by first | exact HQ.out.2.2.1 | exact HQ.out.2.2.2) _).mono ?_; rintro e w1 ⟨rfl, rfl⟩; first | rw [GS.out] | rw [GQ.out])
        go_ret
        exact ⟨by rw [H.out]; rfl, hst⟩
      · have GQ := hid h1
        have H : Hid (gsB n n L M s q s' q' = rowsB n L M) := by unfold Hid gsB; rw [h0, h1]; simp
        clear h0 h1
        have XGa := XG.c0
        have XKa := XK.c0
        have HZ := hid (show (w.alloc (.cells #[.slice A n ca, .float .f32 s, .float .f32 q] 42)).heap.size = w.heap.size + 1 by simp)
        have T0 := Below.refl ((w.alloc (.cells #[.slice A n ca, .float .f32 s, .float .f32 q] 42)).alloc (.cells #[.slice B n cb, .float .f32 s', .float .f32 q'] 42)).heap.size ((w.alloc (.cells #[.slice A n ca, .float .f32 s, .float .f32 q] 42)).alloc (.cells #[.slice B n cb, .float .f32 s', .float .f32 q'] 42))
        go_enter Try.func31, Try.ntmps31
        go_wp2_with (go_at_call 74; refine (specSame_any _ _ (by first | exact HQ.out.1 | exact HQ.out.2.1) (by first | exact HQ.out.2.2.1 | exact HQ.out.2.2.2) _).mono ?_; rintro e w1 ⟨rfl, rfl⟩; first | rw [GS.out] | rw [GQ.out])
        go_loopw [5] (fun i wr => ∃ k : Nat, k ≤ n ∧ i = .int .i64 k ∧ Hid (∀ j, j < k → rowB L M j = true) ∧ Below ((w.alloc (.cells #[.slice A n ca, .float .f32 s, .float .f32 q] 42)).alloc (.cells #[.slice B n cb, .float .f32 s', .float .f32 q'] 42)).heap.size ((w.alloc (.cells #[.slice A n ca, .float .f32 s, .float .f32 q] 42)).alloc (.cells #[.slice B n cb, .float .f32 s', .float .f32 q'] 42)) wr) (fun i _ => n - (intOf i).toNat)
        case atStart => exact ⟨0, Nat.zero_le _, rfl, fun j hj => absurd hj (Nat.not_lt_zero _), T0⟩
        case round =>
          obtain ⟨k, hk, rfl, hall, hbw⟩ := hrel
          have XGr := (hbw.cell (p := ⟨w.heap.size, 0, none⟩) XG.lt).trans XGa
          have XKr := (XK.below hbw).c0
          rw [HZ.out] at XKr
          by_cases hlt : k < n
          · obtain ⟨ab, ao, x0, x1, x2, x3, rfl, hab, c0, c1, c2, c3, e0, e1, e2, e3, a0, a1, a2, a3⟩ := (HL.out.below hbw).get hlt
            obtain ⟨bb, bo, y0, y1, y2, y3, rfl, hbb, d0, d1, d2, d3, f0, f1, f2, f3, b0, b1, b2, b3⟩ := (HK.out.below hbw).get hlt
            have HB := hid (And.intro a0 (And.intro a1 (And.intro a2 (And.intro a3 (And.intro b0 (And.intro b1 (And.intro b2 b3)))))))
            have hr : rowB L M k = lsB x0 x1 x2 x3 y0 y1 y2 y3 := by rw [e0, e1, e2, e3, f0, f1, f2, f3]; rfl
            have HR := hid hr
            have i1 : (0 : Int) ≤ (k : Int) := by omega
            have i2 : (k : Int) < (n : Int) := by omega
            clear hr e0 e1 e2 e3 f0 f1 f2 f3 XG XK XGa XKa T0
            rcases lsB_cases x0 x1 x2 x3 y0 y1 y2 y3 with ⟨g0, hl⟩ | ⟨g0, g1, hl⟩ | ⟨g0, g1, g2, hl⟩ | ⟨g0, g1, g2, g3, hl⟩ | ⟨g0, g1, g2, g3, hl⟩
            · have HN := hid (rows_no hlt (HR.out.trans hl))
              clear hl
              go_wp2_with fail
              go_quiet ((go_at_call 74; exact Calls.quiet_of_same (specSame_q _ _ (by assumption) (by assumption) _)))
              all_goals
                go_wp2
                go_ret
                exact ⟨by rw [H.out, HN.out]; rfl, below_drewN (below_step hst hbw rfl rfl rfl rfl) _⟩
            · have HN := hid (rows_no hlt (HR.out.trans hl))
              clear hl
              go_wp2_with fail
              go_quiet ((go_at_call 74; exact Calls.quiet_of_same (specSame_q _ _ (by assumption) (by assumption) _)))
              all_goals
                go_wp2
                go_ret
                exact ⟨by rw [H.out, HN.out]; rfl, below_drewN (below_step hst hbw rfl rfl rfl rfl) _⟩
            · have HN := hid (rows_no hlt (HR.out.trans hl))
              clear hl
              go_wp2_with fail
              go_quiet ((go_at_call 74; exact Calls.quiet_of_same (specSame_q _ _ (by assumption) (by assumption) _)))
              all_goals
                go_wp2
                go_ret
                exact ⟨by rw [H.out, HN.out]; rfl, below_drewN (below_step hst hbw rfl rfl rfl rfl) _⟩
            · have HN := hid (rows_no hlt (HR.out.trans hl))
              clear hl
              go_wp2_with fail
              go_quiet ((go_at_call 74; exact Calls.quiet_of_same (specSame_q _ _ (by assumption) (by assumption) _)))
              all_goals
                go_wp2
                go_ret
                exact ⟨by rw [H.out, HN.out]; rfl, below_drewN (below_step hst hbw rfl rfl rfl rfl) _⟩
            · have HN := hid (row_step hall.out (HR.out.trans hl))
              clear hl
              go_wp2_with fail
              go_quiet ((go_at_call 74; exact Calls.quiet_of_same (specSame_q _ _ (by assumption) (by assumption) _)))
              all_goals
                go_wp2
                go_roundw
                case rel => exact ⟨k + 1, by omega, by go_num, HN, below_drewN hbw _⟩
                case measure => simp [intOf]; omega
          · obtain rfl : k = n := by omega
            have HN := hid (rows_of hall.out)
            go_wp2
            go_ret
            exact ⟨by rw [H.out, HN.out]; rfl, below_step hst hbw rfl rfl rfl rfl⟩
  · have H : Hid (gsB n m L M s q s' q' = false) := by unfold Hid gsB; simp [hnm]
    have n1 : ((n : Int) != (m : Int)) = true := by simp; omega
    have n2 : ((n : Int) == (m : Int)) = false := by simp; omega
    have XGa := XG.c0
    have XKa := XK.c0
    clear hnm
    go_enter Try.func31, Try.ntmps31
    go_wp2
    go_ret
    exact ⟨by rw [H.out]; rfl, hst⟩
end Go.Proofs.Ytmomgaiondjinaa
