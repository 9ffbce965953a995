/- Is a ground valid: the program's. No condition. -/
import Derived.Test.YtmomgaiondjinaaVal
namespace Go.Proofs.Ytmomgaiondjinaa
open Go.RowKit Go.Proofs.Ytmomgaiondjinaa.Fl
theorem specValid_any (A : Option Addr) (n c : Nat) (L : Nat → Nat → Nat) (s q : Nat) (w : World) (hn : n ≤ 1048576) (ha : LArg w A n L) :
    Calls Try.prog 35 #[.agg #[.slice A n c, .float .f32 s, .float .f32 q]] w fun e w' => e = .returned (.bool (validB n L s q)) ∧ Below w.heap.size w w' := by
  have HA := hid ha
  clear ha
  have hst : ∀ a : Obj, Below w.heap.size w (w.alloc a) := fun a => (Below.refl _ _).alloc (Nat.le_refl _) _
  go_enter Try.func35, Try.ntmps35
  go_wp2_with fail
  refine (specIs_any _ A n c L s q _ hn (by simp) (by simp) (by simp) (HA.out.below (hst _))).mono ?_
  rintro e w1 ⟨rfl, n1, rfl⟩
  have hb := below_drewN (hst (.cells #[.slice A n c, .float .f32 s, .float .f32 q] 42)) n1
  clear hst
  go_wp2
  go_ret
  exact ⟨rfl, hb⟩
theorem within_any (n lo hi : Int) (w : World) :
    Calls Try.prog 68 #[.int .i64 n, .int .i64 lo, .int .i64 hi] w fun e w' => e = .returned (.bool (decide (lo ≤ n) && decide (n ≤ hi))) ∧ w = w' := by
  by_cases h1 : lo ≤ n
  · go_enter Try.func68, Try.ntmps68
    go_wp2
    go_ret
    exact ⟨by simp [h1], rfl⟩
  · go_enter Try.func68, Try.ntmps68
    go_wp2
    go_ret
    exact ⟨by simp; omega, rfl⟩
theorem lengthL_any (A : Option Addr) (n c : Nat) (w : World) :
    Calls Try.prog 81 #[.slice A n c] w fun e w' => e = .returned (.int .i64 n) ∧ w = w' := by
  go_enter Try.func81, Try.ntmps81
  go_wp2
  go_ret
  exact ⟨rfl, rfl⟩
theorem lay_loss {x0 x1 x2 x3 : Nat} {b : Bool} (h : [x0, x1, x2].all posB = true) (g : ge0 x3 = b) : layB x0 x1 x2 x3 = (b && lt1 x3) := by
  rw [all3] at h; unfold layB; rw [g]
  cases h0 : posB x0 <;> cases h1 : posB x1 <;> cases h2 : posB x2 <;> simp_all
theorem ge0_is (x : Nat) : (FloatKind.f32.format.order x 0 == some .gt || FloatKind.f32.format.order x 0 == some .eq) = ge0 x := rfl
set_option maxHeartbeats 1000000 in
set_option maxRecDepth 100000 in
theorem validLay_any (x0 x1 x2 x3 : Nat) (b0 : x0 < 2 ^ 32) (b1 : x1 < 2 ^ 32) (b2 : x2 < 2 ^ 32) (w : World) :
    Calls Try.prog 84 #[.agg #[.float .f32 x0, .float .f32 x1, .float .f32 x2, .float .f32 x3]] w fun e w' => e = .returned (.bool (!layB x0 x1 x2 x3)) ∧ Below w.heap.size w w' := by
  have HB := hid (And.intro b0 (And.intro b1 b2))
  clear b0 b1 b2
  have hst : ∀ (a b : Obj) (n : Nat), Below w.heap.size w (((w.alloc a).alloc b).drewN n) := fun a b n => below_drewN (((Below.refl _ _).alloc (Nat.le_refl _) _).alloc (by simp) _) n
  cases h012 : [x0, x1, x2].all posB
  · have H : Hid (layB x0 x1 x2 x3 = false) := by
      rw [all3] at h012
      unfold Hid layB
      cases h0 : posB x0 <;> cases h1 : posB x1 <;> cases h2 : posB x2 <;> simp_all
    have HH := hid h012
    clear h012
    go_enter Try.func84, Try.ntmps84
    go_wp2_with fail
    refine (arePositive_any _ 0 3 [x0, x1, x2] _ (len3 _ _ _) (fcells3 _ _ (by simp) _ _ _ _ HB.out.1 HB.out.2.1 HB.out.2.2)).mono ?_
    rintro e w1 ⟨rfl, n1, rfl⟩
    rw [HH.out]
    have hb := fun a b => hst a b n1
    clear hst
    go_wp2
    go_ret
    exact ⟨by rw [H.out]; rfl, hb _ _⟩
  · cases g3 : ge0 x3
    all_goals
      have H := hid (lay_loss h012 g3)
      have q3 := ge0_is x3
      rw [g3] at q3
      have HH := hid h012
      clear h012 g3
      go_enter Try.func84, Try.ntmps84
      go_wp2_with fail
      refine (arePositive_any _ 0 3 [x0, x1, x2] _ (len3 _ _ _) (fcells3 _ _ (by simp) _ _ _ _ HB.out.1 HB.out.2.1 HB.out.2.2)).mono ?_
      rintro e w1 ⟨rfl, n1, rfl⟩
      rw [HH.out]
      have hb := fun a b => hst a b n1
      clear hst
      go_wp2
      go_ret
      exact ⟨by rw [H.out]; rfl, hb _ _⟩
/-- An index at which a layer is not good, or one below 0; nothing that was there has turned. -/
def IdxL (n : Nat) (L : Nat → Nat → Nat) (w : World) (e : Ending) (w' : World) : Prop := ∃ i : Int, e = .returned (.int .i64 i) ∧ decide (0 ≤ i) = !laysB n L ∧ Below w.heap.size w w'
set_option maxHeartbeats 1000000 in
set_option maxRecDepth 100000 in
theorem indexLay_any (A : Option Addr) (n c : Nat) (L : Nat → Nat → Nat) (w : World) (hn : n ≤ 1048576) (ha : LArg w A n L) :
    Calls Try.prog 122 #[.slice A n c, .func (.func 84) #[] #[]] w (IdxL n L w) := by
  have hnz : (n : Int) ≤ 1048576 := by omega
  have HA := hid ha
  clear ha
  go_enter Try.func122, Try.ntmps122
  go_wp2
  go_loopw [8] (fun i wr => ∃ k : Nat, k ≤ n ∧ i = .int .i64 k ∧ Hid (∀ j, j < k → layB (L j 0) (L j 1) (L j 2) (L j 3) = true) ∧ Below w.heap.size w wr) (fun i _ => n - (intOf i).toNat)
  case atStart => exact ⟨0, Nat.zero_le _, rfl, fun j hj => absurd hj (Nat.not_lt_zero _), Below.refl _ _⟩
  case round =>
    obtain ⟨k, hk, rfl, hall, hbl⟩ := hrel
    by_cases hlt : k < n
    · obtain ⟨ab, ao, x0, x1, x2, x3, rfl, hab, c0, c1, c2, c3, e0, e1, e2, e3, a0, a1, a2, _⟩ := (HA.out.below hbl).get hlt
      have HV := fun w => hid (validLay_any x0 x1 x2 x3 a0 a1 a2 w)
      have hl : layB (L k 0) (L k 1) (L k 2) (L k 3) = layB x0 x1 x2 x3 := by rw [e0, e1, e2, e3]
      have HL := hid hl
      clear hl e0 e1 e2 e3 a0 a1 a2
      cases hf : layB x0 x1 x2 x3
      · have HF := hid hf
        have HN := hid (laysB_no hlt (HL.out.trans hf))
        clear hf
        go_wp2_with (go_at_call 84; refine ((HV _).out).mono ?_; rintro e w1 ⟨rfl, hb1⟩; rw [HF.out])
        go_ret
        exact ⟨k, rfl, by rw [HN.out]; simp, hbl.trans (hb1.mono hbl.size)⟩
      · have HF := hid hf
        have HN := hid (step_all hall.out (HL.out.trans hf))
        clear hf
        go_wp2_with (go_at_call 84; refine ((HV _).out).mono ?_; rintro e w1 ⟨rfl, hb1⟩; rw [HF.out])
        go_roundw
        case rel => exact ⟨k + 1, by omega, by go_num, HN, hbl.trans (hb1.mono hbl.size)⟩
        case measure => simp [intOf]; omega
    · obtain rfl : k = n := by omega
      have HN := hid (laysB_of hall.out)
      go_wp2
      go_ret
      exact ⟨-1, rfl, by rw [HN.out]; rfl, hbl⟩
theorem containsLay_any (A : Option Addr) (n c : Nat) (L : Nat → Nat → Nat) (w : World) (hn : n ≤ 1048576) (ha : LArg w A n L) :
    Calls Try.prog 83 #[.slice A n c, .func (.func 84) #[] #[]] w fun e w' => e = .returned (.bool (!laysB n L)) ∧ Below w.heap.size w w' := by
  have HN := hid hn
  have HA := hid ha
  clear hn ha
  go_enter Try.func83, Try.ntmps83
  go_wp2_with (go_at_call 122; refine (indexLay_any _ _ _ _ _ HN.out HA.out).mono ?_; rintro e w1 ⟨i, rfl, hi, hb⟩; have HI := hid hi; clear hi)
  go_ret
  exact ⟨by rw [← HI.out]; rfl, hb⟩
set_option maxHeartbeats 1000000 in
set_option maxRecDepth 100000 in
theorem implValid_any (A : Option Addr) (n c : Nat) (L : Nat → Nat → Nat) (s q : Nat) (w : World) (hn : n ≤ 1048576) (ha : LArg w A n L) (bs : s < 2 ^ 32) (bq : q < 2 ^ 32) :
    Calls Try.prog 36 #[.agg #[.slice A n c, .float .f32 s, .float .f32 q]] w fun e w' => e = .returned (.bool (validB n L s q)) ∧ Below w.heap.size w w' := by
  have HA := hid ha
  have HB := hid (And.intro bs bq)
  have HN := hid hn
  have hst : ∀ a : Obj, Below w.heap.size w (w.alloc a) := fun a => (Below.refl _ _).alloc (Nat.le_refl _) _
  have hst2 : ∀ (a b : Obj) (m : Nat), Below w.heap.size w (((w.alloc a).alloc b).drewN m) := fun a b m => below_drewN (((Below.refl _ _).alloc (Nat.le_refl _) _).alloc (by simp) _) m
  clear ha bs bq hn
  cases hr : (decide ((1 : Int) ≤ (n : Int)) && decide ((n : Int) ≤ 12))
  · have H : Hid (validB n L s q = false) := by
      have : (decide (1 ≤ n) && decide (n ≤ 12)) = false := by simp at hr ⊢; omega
      unfold Hid validB; rw [this]; rfl
    have HR := hid hr
    clear hr hst2
    go_enter Try.func36, Try.ntmps36
    go_wp2_with (first | (go_at_call 81; refine (lengthL_any _ _ _ _).mono ?_; rintro e w1 ⟨rfl, rfl⟩) | (go_at_call 68; refine (within_any _ _ _ _).mono ?_; rintro e w1 ⟨rfl, rfl⟩; rw [HR.out]))
    go_ret
    exact ⟨by rw [H.out]; rfl, hst _⟩
  · have hr' : (decide (1 ≤ n) && decide (n ≤ 12)) = true := by simp at hr ⊢; omega
    have HR := hid hr
    clear hr
    cases h2 : [s, q].all posB
    · have H : Hid (validB n L s q = false) := by
        rw [all2] at h2
        unfold Hid validB
        cases h0 : posB s <;> cases h1 : posB q <;> simp_all
      have H2 := hid h2
      clear h2 hr'
      go_enter Try.func36, Try.ntmps36
      go_wp2_with (first | (go_at_call 81; refine (lengthL_any _ _ _ _).mono ?_; rintro e w1 ⟨rfl, rfl⟩) | (go_at_call 68; refine (within_any _ _ _ _).mono ?_; rintro e w1 ⟨rfl, rfl⟩; rw [HR.out]))
      refine (arePositive_any _ 0 2 [s, q] _ (len2 _ _) (fcells2 _ _ (by simp) _ _ _ HB.out.1 HB.out.2)).mono ?_
      rintro e w1 ⟨rfl, n1, rfl⟩
      rw [H2.out]
      have hb := fun a b => hst2 a b n1
      clear hst hst2
      go_wp2
      go_ret
      exact ⟨by rw [H.out]; rfl, hb _ _⟩
    · have H : Hid (validB n L s q = laysB n L) := by
        rw [all2] at h2
        unfold Hid validB
        rw [hr']
        cases h0 : posB s <;> cases h1 : posB q <;> simp_all
      have H2 := hid h2
      clear h2 hr'
      go_enter Try.func36, Try.ntmps36
      go_wp2_with (first | (go_at_call 81; refine (lengthL_any _ _ _ _).mono ?_; rintro e w1 ⟨rfl, rfl⟩) | (go_at_call 68; refine (within_any _ _ _ _).mono ?_; rintro e w1 ⟨rfl, rfl⟩; rw [HR.out]))
      refine (arePositive_any _ 0 2 [s, q] _ (len2 _ _) (fcells2 _ _ (by simp) _ _ _ HB.out.1 HB.out.2)).mono ?_
      rintro e w1 ⟨rfl, n1, rfl⟩
      rw [H2.out]
      have hb := fun a b => hst2 a b n1
      clear hst hst2
      go_wp2_with fail
      refine (containsLay_any A n c L _ HN.out (HA.out.below (hb _ _))).mono ?_
      rintro e w2 ⟨rfl, hb2⟩
      have hb3 := (hb _ _).trans (hb2.mono (hb _ _).size)
      clear hb hb2
      go_wp2
      go_ret
      exact ⟨by rw [H.out]; simp, hb3⟩
end Go.Proofs.Ytmomgaiondjinaa
