/- Is a ground valid: the reference's and the program's. No condition. -/
import Derived.Test.YtmomgaiondjinaaGnd
import Derived.Test.YtmomgaiondjinaaNum
namespace Go.Proofs.Ytmomgaiondjinaa
open Go.RowKit Go.Proofs.Ytmomgaiondjinaa.Fl
/-- At least 0. -/
def ge0 (x : Nat) : Bool := FloatKind.f32.format.order x 0 == some .gt || FloatKind.f32.format.order x 0 == some .eq
/-- Less than 1. -/
def lt1 (x : Nat) : Bool := FloatKind.f32.format.order x 1065353216 == some .lt
def layB (x0 x1 x2 x3 : Nat) : Bool := posB x0 && (posB x1 && (posB x2 && (ge0 x3 && lt1 x3)))
def laysB (n : Nat) (L : Nat → Nat → Nat) : Bool := (List.range n).all fun i => layB (L i 0) (L i 1) (L i 2) (L i 3)
def validB (n : Nat) (L : Nat → Nat → Nat) (s q : Nat) : Bool := decide (1 ≤ n) && decide (n ≤ 12) && posB s && posB q && laysB n L
theorem laysB_of {n : Nat} {L : Nat → Nat → Nat} (h : ∀ j, j < n → layB (L j 0) (L j 1) (L j 2) (L j 3) = true) : laysB n L = true := by
  unfold laysB; rw [List.all_eq_true]; intro x hx; exact h x (List.mem_range.1 hx)
theorem laysB_no {n k : Nat} {L : Nat → Nat → Nat} (hk : k < n) (h : layB (L k 0) (L k 1) (L k 2) (L k 3) = false) : laysB n L = false := by
  unfold laysB; rw [List.all_eq_false]; exact ⟨k, List.mem_range.2 hk, by rw [h]; decide⟩
theorem laysB_at {n k : Nat} {L : Nat → Nat → Nat} (h : laysB n L = true) (hk : k < n) : layB (L k 0) (L k 1) (L k 2) (L k 3) = true := by
  unfold laysB at h; rw [List.all_eq_true] at h; exact h k (List.mem_range.2 hk)
theorem validB_iff {n : Nat} {L : Nat → Nat → Nat} {s q : Nat} (h : validB n L s q = true) : 1 ≤ n ∧ n ≤ 12 ∧ posB s = true ∧ posB q = true ∧ laysB n L = true := by
  unfold validB at h; simp at h; obtain ⟨⟨⟨⟨h1, h2⟩, h3⟩, h4⟩, h5⟩ := h; exact ⟨h1, h2, h3, h4, h5⟩
theorem step_all {k : Nat} {L : Nat → Nat → Nat} (h : ∀ j, j < k → layB (L j 0) (L j 1) (L j 2) (L j 3) = true) (hk : layB (L k 0) (L k 1) (L k 2) (L k 3) = true) : ∀ j, j < k + 1 → layB (L j 0) (L j 1) (L j 2) (L j 3) = true := fun j hj => by
  by_cases e : j = k
  · rw [e]; exact hk
  · exact h j (by omega)
set_option maxHeartbeats 4000000 in
set_option maxRecDepth 100000 in
theorem specIs_any (b : Nat) (A : Option Addr) (n c : Nat) (L : Nat → Nat → Nat) (s q : Nat) (w : World) (hn : n ≤ 1048576) (h0 : w.cell? ⟨b, 0, none⟩ = some (.slice A n c)) (h1 : w.cell? ⟨b, 1, none⟩ = some (.float .f32 s)) (h2 : w.cell? ⟨b, 2, none⟩ = some (.float .f32 q)) (ha : LArg w A n L) :
    Calls Try.prog 80 #[.pointer (some ⟨b, 0, none⟩)] w (RetV (.bool (validB n L s q)) w) := by
  have hnz : (n : Int) ≤ 1048576 := by omega
  have HA := hid ha
  clear ha
  by_cases hr : 1 ≤ n ∧ n ≤ 12
  · obtain ⟨r1, r2⟩ := hr
    have t1 : decide ((n : Int) < 1) = false := by simp; omega
    have t2 : decide (12 < (n : Int)) = false := by simp; omega
    cases hs : posB s
    · have H : Hid (validB n L s q = false) := by unfold Hid validB; rw [hs]; simp
      have HS := hid hs
      clear hs
      go_enter Try.func80, Try.ntmps80
      go_wp2_with (go_at_call 105; refine (above_any _ _).mono ?_; rintro e w1 ⟨rfl, n1, rfl⟩; rw [HS.out])
      go_ret
      exact ⟨by rw [H.out]; rfl, _, rfl⟩
    · cases hq : posB q
      · have H : Hid (validB n L s q = false) := by unfold Hid validB; rw [hq]; simp
        have HS := hid hs
        have HQ := hid hq
        clear hs hq
        go_enter Try.func80, Try.ntmps80
        go_wp2_with (go_at_call 105; refine (above_any _ _).mono ?_; rintro e w1 ⟨rfl, n1, rfl⟩; first | rw [HS.out] | rw [HQ.out])
        go_ret
        exact ⟨by rw [H.out]; rfl, _, rfl⟩
      · have H : Hid (validB n L s q = laysB n L) := by unfold Hid validB; rw [hs, hq]; simp [r1, r2]
        have HS := hid hs
        have HQ := hid hq
        clear hs hq
        go_enter Try.func80, Try.ntmps80
        go_wp2_with (go_at_call 105; refine (above_any _ _).mono ?_; rintro e w1 ⟨rfl, n1, rfl⟩; first | rw [HS.out] | rw [HQ.out])
        go_loopw [3] (fun i wr => ∃ k m : Nat, k ≤ n ∧ i = .int .i64 k ∧ Hid (∀ j, j < k → layB (L j 0) (L j 1) (L j 2) (L j 3) = true) ∧ wr = w.drewN m) (fun i _ => n - (intOf i).toNat)
        case atStart => exact ⟨0, _, Nat.zero_le _, rfl, fun j hj => absurd hj (Nat.not_lt_zero _), rfl⟩
        case round =>
          obtain ⟨k, m, hk, rfl, hall, rfl⟩ := hrel
          by_cases hlt : k < n
          · obtain ⟨ab, ao, x0, x1, x2, x3, rfl, hab, c0, c1, c2, c3, e0, e1, e2, e3, _, _, _, _⟩ := HA.out.get hlt
            have hl : layB (L k 0) (L k 1) (L k 2) (L k 3) = layB x0 x1 x2 x3 := by rw [e0, e1, e2, e3]
            have HL := hid hl
            clear hl e0 e1 e2 e3
            cases g0 : posB x0
            · have HF := hid (laysB_no hlt (HL.out.trans (by unfold layB; rw [g0]; simp)))
              have G0 := hid g0
              clear g0
              go_wp2_with (go_at_call 105; refine (above_any _ _).mono ?_; rintro e w1 ⟨rfl, n1, rfl⟩; first | rw [G0.out])
              go_ret
              exact ⟨by rw [H.out, HF.out]; rfl, _, rfl⟩
            · cases g1 : posB x1
              · have HF := hid (laysB_no hlt (HL.out.trans (by unfold layB; rw [g1]; simp)))
                have G0 := hid g0
                have G1 := hid g1
                clear g0 g1
                go_wp2_with (go_at_call 105; refine (above_any _ _).mono ?_; rintro e w1 ⟨rfl, n1, rfl⟩; first | rw [G0.out] | rw [G1.out])
                go_ret
                exact ⟨by rw [H.out, HF.out]; rfl, _, rfl⟩
              · cases g2 : posB x2
                · have HF := hid (laysB_no hlt (HL.out.trans (by unfold layB; rw [g2]; simp)))
                  have G0 := hid g0
                  have G1 := hid g1
                  have G2 := hid g2
                  clear g0 g1 g2
                  go_wp2_with (go_at_call 105; refine (above_any _ _).mono ?_; rintro e w1 ⟨rfl, n1, rfl⟩; first | rw [G0.out] | rw [G1.out] | rw [G2.out])
                  go_ret
                  exact ⟨by rw [H.out, HF.out]; rfl, _, rfl⟩
                · cases g3 : ge0 x3
                  · have HF := hid (laysB_no hlt (HL.out.trans (by unfold layB; rw [g3]; simp)))
                    have G0 := hid g0
                    have G1 := hid g1
                    have G2 := hid g2
                    clear g0 g1 g2
                    have q3 : (FloatKind.f32.format.order x3 0 == some .gt || FloatKind.f32.format.order x3 0 == some .eq) = false := g3
                    clear g3
                    go_wp2_with (go_at_call 105; refine (above_any _ _).mono ?_; rintro e w1 ⟨rfl, n1, rfl⟩; first | rw [G0.out] | rw [G1.out] | rw [G2.out])
                    go_ret
                    exact ⟨by rw [H.out, HF.out]; rfl, _, rfl⟩
                  · cases g4 : lt1 x3
                    · have HF := hid (laysB_no hlt (HL.out.trans (by unfold layB; rw [g4]; simp)))
                      have G0 := hid g0
                      have G1 := hid g1
                      have G2 := hid g2
                      clear g0 g1 g2
                      have q3 : (FloatKind.f32.format.order x3 0 == some .gt || FloatKind.f32.format.order x3 0 == some .eq) = true := g3
                      have q4 : (FloatKind.f32.format.order x3 1065353216 == some .lt) = false := g4
                      clear g3 g4
                      go_wp2_with (go_at_call 105; refine (above_any _ _).mono ?_; rintro e w1 ⟨rfl, n1, rfl⟩; first | rw [G0.out] | rw [G1.out] | rw [G2.out])
                      go_ret
                      exact ⟨by rw [H.out, HF.out]; rfl, _, rfl⟩
                    · have HT := hid (step_all hall.out (HL.out.trans (by unfold layB; rw [g0, g1, g2, g3, g4]; rfl)))
                      have G0 := hid g0
                      have G1 := hid g1
                      have G2 := hid g2
                      clear g0 g1 g2
                      have q3 : (FloatKind.f32.format.order x3 0 == some .gt || FloatKind.f32.format.order x3 0 == some .eq) = true := g3
                      have q4 : (FloatKind.f32.format.order x3 1065353216 == some .lt) = true := g4
                      clear g3 g4
                      go_wp2_with (go_at_call 105; refine (above_any _ _).mono ?_; rintro e w1 ⟨rfl, n1, rfl⟩; first | rw [G0.out] | rw [G1.out] | rw [G2.out])
                      go_roundw
                      case rel => exact ⟨k + 1, _, by omega, by go_num, HT, rfl⟩
                      case measure => simp [intOf]; omega
          · obtain rfl : k = n := by omega
            have HA2 := hid (laysB_of hall.out)
            go_wp2
            go_ret
            exact ⟨by rw [H.out, HA2.out]; rfl, _, rfl⟩
  · have H : Hid (validB n L s q = false) := by
      unfold Hid validB
      have : (decide (1 ≤ n) && decide (n ≤ 12)) = false := by simp; omega
      rw [this]; rfl
    by_cases r1 : 1 ≤ n
    · have t1 : decide ((n : Int) < 1) = false := by simp; omega
      have t2 : decide (12 < (n : Int)) = true := by simp; omega
      go_enter Try.func80, Try.ntmps80
      go_wp2
      go_ret
      exact ⟨by rw [H.out]; rfl, 0, rfl⟩
    · have t1 : decide ((n : Int) < 1) = true := by simp; omega
      go_enter Try.func80, Try.ntmps80
      go_wp2
      go_ret
      exact ⟨by rw [H.out]; rfl, 0, rfl⟩
end Go.Proofs.Ytmomgaiondjinaa
