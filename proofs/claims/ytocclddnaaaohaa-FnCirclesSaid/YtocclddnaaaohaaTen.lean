/- The walks of TenthsOf, of the program and of the reference. No condition. -/
import Derived.Test.YtocclddnaaaohaaFt
import Derived.Test.YtocclddnaaaohaaTurns
namespace Go.Proofs.Ytocclddnaaaohaa
open Go.RowKit Go.Proofs.Ytocclddnaaaohaa.Fl

theorem floor_any (t W : Nat) (ht : finW Ieee.double t) (hW : floorW t = W) (w : World) :
    Calls Try.prog 23 #[.float .f64 t] w fun e w' => e = .returned (.float .f64 W) ∧ w = w' := by
  have hE := run_floorE t w
  rw [toIntegral_fin w ht] at hE
  have hW' : FloatKind.f64.encode ((FloatKind.f64.decode t).integral .down) = W := hW
  rw [hW'] at hE
  simp only [Result.andThen] at hE
  clear hW ht hW'
  go_enter Try.func23, Try.ntmps23
  go_wp2
  go_ret
  exact ⟨rfl, rfl⟩
theorem isInf_no (v : Nat) (h : (FloatKind.f64.format.order v 9218868437227405311 == some .gt) = false) (w : World) :
    Calls Try.prog 38 #[.float .f64 v, .int .i64 1] w fun e w' => e = .returned (.bool false) ∧ w = w' := by
  go_enter Try.func38, Try.ntmps38
  go_wp2
  go_ret
  exact ⟨rfl, rfl⟩
theorem geq15_no {y : Nat} (h : y < Ieee.double.infRung) (c : ¬ c15 ≤ y) : (FloatKind.f64.format.order y 4609434218613702656 == some .gt || FloatKind.f64.format.order y 4609434218613702656 == some .eq) = false := by rw [geq15 h]; exact decide_eq_false c
theorem geq15_yes {y : Nat} (h : y < Ieee.double.infRung) (c : c15 ≤ y) : (FloatKind.f64.format.order y 4609434218613702656 == some .gt || FloatKind.f64.format.order y 4609434218613702656 == some .eq) = true := by rw [geq15 h]; exact decide_eq_true c
theorem lt75_no {y : Nat} (h : y < Ieee.double.infRung) (c : ¬ y < c75) : (FloatKind.f64.format.order y 4604930618986332160 == some .lt) = false := by rw [lt75 h]; exact decide_eq_false c
theorem lt75_yes {y : Nat} (h : y < Ieee.double.infRung) (c : y < c75) : (FloatKind.f64.format.order y 4604930618986332160 == some .lt) = true := by rw [lt75 h]; exact decide_eq_true c
theorem odd25 {j : Nat} (h : j < 13) : 1 ≤ 25 - 2 * (j : Int) ∧ 25 - 2 * (j : Int) ≤ 25 := by omega
theorem halved_next {v j y : Nat} (hy : Hid (y = v - j * stepW)) : Hid (y - stepW = v - (j + 1) * stepW) := by
  unfold Hid at *; rw [hy, Nat.succ_mul]; omega
theorem halved_bd {v j y : Nat} (h2 : v < 1151 * stepW) (hy : Hid (y = v - j * stepW)) (c : c15 ≤ y) : (j + 1) * stepW ≤ v ∧ j + 1 ≤ 1151 ∧ c15 ≤ v - (j + 1 - 1) * stepW := by
  have := hy.out
  simp only [stepL, c15L] at *
  omega
theorem halved_fin {v j y : Nat} (h2 : v < 1151 * stepW) (hy : Hid (y = v - j * stepW)) : y < Ieee.double.infRung := by
  have := hy.out
  have hi : Ieee.double.infRung = 9218868437227405312 := rfl
  simp only [stepL] at *
  omega
theorem halved_end {v j y : Nat} (h1 : 874 * stepW ≤ v) (hy : Hid (y = v - j * stepW)) (h0 : j = 0 ∨ c15 ≤ v - (j - 1) * stepW) : 874 * stepW ≤ y := by
  have := hy.out
  simp only [stepL, c15L] at *
  rcases h0 with rfl | h0
  · omega
  · omega
theorem doubled_next {y i z : Nat} (hz : Hid (z = y + i * stepW)) : Hid (z + stepW = y + (i + 1) * stepW) := by
  unfold Hid at *; rw [hz, Nat.succ_mul]; omega
theorem doubled_bd {y i z : Nat} (h1 : 874 * stepW ≤ y) (hz : Hid (z = y + i * stepW)) (c : z < c75) : stepW ≤ z ∧ i + 1 ≤ 1000 ∧ y + (i + 1 - 1) * stepW < c75 := by
  have := hz.out
  simp only [stepL, c75L] at *
  omega
theorem doubled_fin {y i z : Nat} (h1 : ¬ c15 ≤ y) (hz : Hid (z = y + i * stepW)) (h0 : i = 0 ∨ y + (i - 1) * stepW < c75) : z < Ieee.double.infRung := by
  have := hz.out
  have hi : Ieee.double.infRung = 9218868437227405312 := rfl
  simp only [stepL, c75L, c15L] at *
  rcases h0 with rfl | h0
  · omega
  · omega
theorem norm_end {v j y i z : Nat} (hy : Hid (y = v - j * stepW)) (hv : j * stepW ≤ v) (h0 : j = 0 ∨ c15 ≤ v - (j - 1) * stepW) (c : ¬ c15 ≤ y) (hz : Hid (z = y + i * stepW)) (g0 : i = 0 ∨ y + (i - 1) * stepW < c75) (d : ¬ z < c75) : Hid (z = normX v ∧ (j : Int) - (i : Int) = normE v) := by
  have a : halves v = j := halves_of (by rw [← hy.out]; omega) h0 hv
  have b : doubles y = i := doubles_of (by rw [← hz.out]; omega) g0
  unfold Hid normX normE
  rw [a, ← hy.out, b, hz.out]
  exact ⟨rfl, rfl⟩
theorem log_end {v x s u q a b c l : Nat} {e : Int} (hN : Hid (x = normX v ∧ e = normE v)) (hs : Hid (nz .f64 s = sV x)) (hu : Hid (nz .f64 u = fop .mul .f64 s s)) (hq : Hid (nz .f64 q = qIt u 13)) (ha : Hid (nz .f64 a = fop .mul .f64 s q)) (hb : Hid (nz .f64 b = fop .mul .f64 4611686018427387904 a)) (hc : Hid (nz .f64 c = fop .mul .f64 (floatOfInt .f64 e) 4604418534313441775)) (hl : Hid (nz .f64 l = fop .add .f64 b c)) : Hid (nz .f64 l = logV (normX v) (normE v)) := by
  have := l_end hs hu hq ha hb hc hl
  obtain ⟨h1, h2⟩ := hN.out
  rw [← h1, ← h2]; exact this

theorem ten_def (v : Nat) : tenI v = wholeI (floorW (zV (logV (normX v) (normE v)))) := rfl
/-- What TenthsOf gives. -/
def leqB (x : Nat) : Bool := FloatKind.f32.format.order x 0 == some .lt || FloatKind.f32.format.order x 0 == some .eq
def tensI (x : Nat) : Int := if finB .f32 x && !leqB x then tenI (fcv .f32 .f64 x) else 0
def tensB (x : Nat) : Bool := finB .f32 x && !leqB x
def RetTens (x : Nat) (w : World) (e : Ending) (w' : World) : Prop := e = .returned (.tuple #[.int .i64 (tensI x), .bool (tensB x)]) ∧ ∃ n, w' = w.drewN n
theorem tens_fin {x : Nat} (h : finB .f32 x = false) : tensI x = 0 ∧ tensB x = false := by unfold tensI tensB; rw [h]; exact ⟨rfl, rfl⟩
theorem tens_leq {x : Nat} (h : leqB x = true) : tensI x = 0 ∧ tensB x = false := by unfold tensI tensB; rw [h]; cases finB .f32 x <;> exact ⟨rfl, rfl⟩
theorem tens_at {x v : Nat} (hf : finB .f32 x = true) (h : leqB x = false) (hv : fcv .f32 .f64 x = v) : tensI x = wholeI (floorW (zV (logV (normX v) (normE v)))) ∧ tensB x = true := by unfold tensI tensB; rw [hf, h, hv, ← ten_def]; exact ⟨if_pos rfl, rfl⟩
set_option maxHeartbeats 2000000 in
theorem implTenthsOf_any (x : Nat) (hx : x < 2 ^ 32) (w : World) :
    Calls Try.prog 12 #[.float .f32 x] w (RetTens x w) := by
  have HX := hid hx
  clear hx
  cases hf : finB .f32 x
  · have E := hid (tens_fin hf)
    have HF := hid hf
    clear hf
    go_enter Try.func12, Try.ntmps12
    go_wp2_with (go_at_call 22; refine (implIsFinite_any _ HX.out _).mono ?_; rintro e w1 ⟨rfl, n1, rfl⟩; rw [HF.out])
    go_ret2
    exact ⟨by rw [E.out.1, E.out.2]; rfl, _, rfl⟩
  · cases hl : (FloatKind.f32.format.order x 0 == some .lt || FloatKind.f32.format.order x 0 == some .eq)
    · obtain ⟨v, hv, hvf, hvl, he, hvn⟩ := widen_exact (of_decide_eq_true hf)
      obtain ⟨r1, r2⟩ := widen_range (of_decide_eq_true hf) hl hv
      obtain ⟨F, hF⟩ : ∃ F, floorW (zV (logV (normX v) (normE v))) = F := ⟨_, rfl⟩
      obtain ⟨hz, hbF⟩ := ten_bd r1 r2
      rw [hF] at hbF
      have CI := fun w => run_convert_float_int (P := Try.prog) w 27 2 .f64 .i64 F (wholeI F) (by rw [Try.underlying27]; rfl) Try.underlying2 (convI hbF)
      have E := hid (tens_at hf hl he)
      have CX := hid hv
      have H1 := hid r1
      have H2 := hid r2
      have HZ := hid hz
      have HFF := hid hF
      have HF := hid hf
      clear hf hv hvf hvl he hvn r1 r2 hF hz hbF
      go_enter Try.func12, Try.ntmps12
      go_wp2_with (first | (go_at_call 22; refine (implIsFinite_any _ HX.out _).mono ?_; rintro e w1 ⟨rfl, n1, rfl⟩; rw [HF.out]) | (refine wpList_fcvx _ rfl _ _ _ rfl _ _ x v rfl rfl Try.underlying27 CX.out ?_))
      clear hl
      go_loopw [4, 5] (fun y c wr => ∃ j b : Nat, (j = 0 ∨ c15 ≤ v - (j - 1) * stepW) ∧ j * stepW ≤ v ∧ j ≤ 1151 ∧ c = .int .i64 j ∧ y = .float .f64 b ∧ Hid (b = v - j * stepW) ∧ ∃ m, wr = w.drewN m) (fun y _ _ => wordOf y)
      case atStart => exact ⟨0, v, Or.inl rfl, by rw [Nat.zero_mul]; exact Nat.zero_le _, by omega, rfl, rfl, by unfold Hid; rw [Nat.zero_mul]; rfl, _, rfl⟩
      case round =>
        obtain ⟨j, y, hj0, hjv, hj, rfl, rfl, hy, mw, rfl⟩ := hrel
        have FY := halved_fin H2.out hy
        by_cases hlt : c15 ≤ y
        · have TT := geq15_yes FY hlt
          obtain ⟨y3, hy3⟩ : ∃ y3, y3 = y - stepW := ⟨_, rfl⟩
          have HSt : Hid (floatBits .quo .f64 y 4611686018427387904 = some y3) := by rw [hy3]; exact half_step hlt FY
          have HY3 := hid hy3
          have HN3 : Hid (y3 = v - (j + 1) * stepW) := by rw [hy3]; exact halved_next hy
          obtain ⟨g1, g2, g3⟩ := halved_bd H2.out hy hlt
          have YP : Hid (y3 < y) := by unfold Hid; rw [hy3]; rw [c15L] at hlt; rw [stepL]; omega
          clear hy3
          go_wp2_with (refine wpList_fopx _ rfl .quo _ _ _ _ rfl rfl .f64 y _ y3 rfl rfl HSt.out ?_)
          go_roundw
          case rel => exact ⟨j + 1, y3, Or.inr g3, g1, g2, by go_num, rfl, HN3, _, rfl⟩
          case measure => exact YP.out
        · have TT := geq15_no FY hlt
          have YL := halved_end H1.out hy hj0
          go_wp2
          go_loopw [4, 5] (fun y2 c wr => ∃ i b : Nat, (i = 0 ∨ y + (i - 1) * stepW < c75) ∧ i ≤ 1000 ∧ c = .int .i64 ((j : Int) - (i : Int)) ∧ y2 = .float .f64 b ∧ Hid (b = y + i * stepW) ∧ ∃ m, wr = w.drewN m) (fun y2 _ _ => c15 - wordOf y2)
          case atStart => exact ⟨0, y, Or.inl rfl, by omega, congrArg (Value.int .i64) (by omega), rfl, by unfold Hid; rw [Nat.zero_mul]; rfl, _, rfl⟩
          case round =>
            obtain ⟨i, z, hi0, hi, rfl, rfl, hz, mw2, rfl⟩ := hrel
            have FZ := doubled_fin hlt hz hi0
            by_cases hlt2 : z < c75
            · have T2 := lt75_yes FZ hlt2
              obtain ⟨g1, g2, g3⟩ := doubled_bd YL hz hlt2
              obtain ⟨z3, hz3⟩ : ∃ z3, z3 = z + stepW := ⟨_, rfl⟩
              have HSt : Hid (floatBits .mul .f64 z 4611686018427387904 = some z3) := by rw [hz3]; exact double_step g1 hlt2
              have HN3 : Hid (z3 = y + (i + 1) * stepW) := by rw [hz3]; exact doubled_next hz
              have ZP : Hid (c15 - z3 < c15 - z) := by unfold Hid; rw [hz3, c15L, stepL]; rw [c75L] at hlt2; omega
              clear hz3
              go_wp2_with (refine wpList_fopx _ rfl .mul _ _ _ _ rfl rfl .f64 z _ z3 rfl rfl HSt.out ?_)
              go_roundw
              case rel => exact ⟨i + 1, z3, Or.inr g3, g2, congrArg (Value.int .i64) (by omega), rfl, HN3, _, rfl⟩
              case measure => exact ZP.out
            · have T2 := lt75_no FZ hlt2
              have HN := norm_end hy hjv hj0 hlt hz hi0 hlt2
              go_wp2_with (refine wpList_fop _ rfl _ _ _ _ _ rfl rfl _ _ _ rfl rfl ?_; intro u mu hu bu)
              rename_i a na ha ba b nb hb bb s ns hs bs K9 hK9
              have HS := s_end ha hb hs
              go_loopw [8, 9] (fun p c wr => ∃ r m q : Nat, r ≤ 13 ∧ c = .int .i64 (25 - 2 * (r : Int)) ∧ p = .float .f64 q ∧ Hid (nz .f64 q = qIt u r) ∧ Hid (q < 2 ^ FloatKind.f64.format.width) ∧ wr = w.drewN m) (fun _ c _ => (intOf c + 1).toNat)
              case atStart => exact ⟨0, _, _, Nat.zero_le _, rfl, rfl, nz_num (nanB_fin fzero), by unfold Hid; decide, rfl⟩
              case round =>
                obtain ⟨r, mr, q, hr, rfl, rfl, hq, bq, rfl⟩ := hrel
                by_cases hlt3 : r < 13
                · obtain ⟨q1, q2⟩ := odd25 hlt3
                  go_wp2_with (refine wpList_fop _ rfl _ _ _ _ _ rfl rfl _ _ _ rfl rfl ?_; intro x mx hx bx)
                  rename_i a2 na2 ha2 ba2 b2 nb2 hb2 bb2
                  go_roundw
                  case rel => exact ⟨r + 1, _, x, by omega, congrArg (Value.int .i64) (by omega), rfl, q_step hq ha2 hb2 hx, bx, rfl⟩
                  case measure => simp [intOf]; omega
                · obtain rfl : r = 13 := by omega
                  go_wp2_with (first | (refine wpList_fop _ rfl _ _ _ _ _ rfl rfl _ _ _ rfl rfl ?_; intro z mz hz bz) | (have hzz := z_is H1.out H2.out (log_end HN HS hu hq (by assumption) (by assumption) (by assumption) (by assumption)) (by assumption) hz; go_at_call 23; refine (floor_any z F (by rw [hzz]; exact HZ.out) (by rw [hzz]; exact HFF.out) _).mono ?_; rintro e w1 ⟨rfl, rfl⟩))
                  go_ret2
                  exact ⟨by rw [E.out.1, E.out.2, HFF.out]; rfl, _, rfl⟩
    · have E := hid (tens_leq (show leqB x = true from hl))
      have HF := hid hf
      clear hf
      go_enter Try.func12, Try.ntmps12
      go_wp2_with (go_at_call 22; refine (implIsFinite_any _ HX.out _).mono ?_; rintro e w1 ⟨rfl, n1, rfl⟩; rw [HF.out])
      go_ret2
      exact ⟨by rw [E.out.1, E.out.2]; rfl, _, rfl⟩
end Go.Proofs.Ytocclddnaaaohaa
