/- The walks of AngleTurns, of the program and of the reference. No condition. -/
import Derived.Test.YtocclddnaaaohaaTurns
import Derived.Test.YtocclddnaaaohaaNum
namespace Go.Proofs.Ytocclddnaaaohaa
open Go.RowKit Go.Proofs.Ytocclddnaaaohaa.Fl

def overB (y x : Nat) : Bool := FloatKind.f64.format.order (y % 2 ^ 63) (x % 2 ^ 63) == some .gt
def negB (x : Nat) : Bool := FloatKind.f64.format.order x 0 == some .lt
def zeroB (x : Nat) : Bool := FloatKind.f64.format.order x 0 == some .eq
def quoT (y x : Nat) : Nat := if overB y x then fop .quo .f64 (x % 2 ^ 63) (y % 2 ^ 63) else fop .quo .f64 (y % 2 ^ 63) (x % 2 ^ 63)
/-- The angle of a point, in 64 bits. -/
def angleV (y x : Nat) : Nat := if !(finB .f64 y && finB .f64 x) then cnan .f64 else if zeroB x && zeroB y then 0 else angV (overB y x) (negB x) (negB y) (quoT y x)
theorem angle_nan {y x : Nat} (h : (finB .f64 y && finB .f64 x) = false) : angleV y x = cnan .f64 := by unfold angleV; rw [h]; rfl
theorem angle_zero {y x : Nat} (h : (finB .f64 y && finB .f64 x) = true) (hz : (zeroB x && zeroB y) = true) : angleV y x = 0 := by unfold angleV; rw [h, hz]; rfl
theorem angle_at {y x T : Nat} {o xn yn : Bool} (h : (finB .f64 y && finB .f64 x) = true) (hz : (zeroB x && zeroB y) = false) (ho : overB y x = o) (hx : negB x = xn) (hy : negB y = yn) (hT : quoT y x = T) : angleV y x = angV o xn yn T := by
  unfold angleV; rw [h, hz, ho, hx, hy, hT]; rfl
theorem quo_yes {y x : Nat} (h : overB y x = true) : quoT y x = fop .quo .f64 (x % 2 ^ 63) (y % 2 ^ 63) := by unfold quoT; rw [h]; rfl
theorem quo_no {y x : Nat} (h : overB y x = false) : quoT y x = fop .quo .f64 (y % 2 ^ 63) (x % 2 ^ 63) := by unfold quoT; rw [h]; rfl
theorem val_zero_iff {x : Nat} (h : finW Ieee.double x) : zeroB x = decide (valW Ieee.double x = 0) := by
  unfold zeroB; rw [order64 h fzero, vzero]
  simp only [compare, compareOfLessAndEq]
  by_cases c : valW Ieee.double x < 0
  · have : ¬ valW Ieee.double x = 0 := by omega
    simp [c, this]
  · by_cases c2 : valW Ieee.double x = 0
    · simp [c2]
    · simp [c, c2]
theorem quoT_bd {y x : Nat} (hy : finW Ieee.double y) (hx : finW Ieee.double x) (hz : (zeroB x && zeroB y) = false) : bdW Ieee.double (quoT y x) 1076 := by
  have ho : overB y x = decide (unitsR Ieee.double (rgW Ieee.double x) < unitsR Ieee.double (rgW Ieee.double y)) := by
    unfold overB; rw [gt_dec (order64 (fin_abs hy) (fin_abs hx)), val_abs, val_abs, decide_eq_decide]; omega
  rw [val_zero_iff hx, val_zero_iff hy, Bool.and_eq_false_iff] at hz
  have ax := valW_abs Ieee.double x
  have ay := valW_abs Ieee.double y
  by_cases c : unitsR Ieee.double (rgW Ieee.double x) < unitsR Ieee.double (rgW Ieee.double y)
  · rw [quo_yes (by rw [ho]; exact decide_eq_true c)]
    exact quo_le (fin_abs hx) (fin_abs hy) (by rw [rgW_abs]; omega) (by rw [rgW_abs, rgW_abs]; omega)
  · rw [quo_no (by rw [ho]; exact decide_eq_false c)]
    refine quo_le (fin_abs hy) (fin_abs hx) ?_ (by rw [rgW_abs, rgW_abs]; omega)
    rw [rgW_abs]
    rcases hz with h | h
    · have := of_decide_eq_false h; omega
    · have := of_decide_eq_false h; omega
theorem angle_narrows {y x v : Nat} (hv : nz .f64 v = angleV y x) : narrows .f64 .f32 v := by
  cases h : (finB .f64 y && finB .f64 x)
  · rw [angle_nan h] at hv
    exact narrows_nan (by rw [← nan_nz, hv]; exact nanB_cnan .f64)
  · have h2 := h
    rw [Bool.and_eq_true] at h2
    have hy : finW Ieee.double y := of_decide_eq_true h2.1
    have hx : finW Ieee.double x := of_decide_eq_true h2.2
    cases hz : (zeroB x && zeroB y)
    · rw [angle_at h hz rfl rfl rfl rfl] at hv
      have hb := angV_bd (overB y x) (negB x) (negB y) (quoT_bd hy hx hz)
      rw [eq_of_nz hv (nanB_fin (k := .f64) hb.1)]
      exact narrows_bd hb (by omega)
    · rw [angle_zero h hz] at hv
      rw [eq_of_nz hv (nanB_fin (k := .f64) fzero)]
      exact narrows_bd b_zero (by omega)
theorem odd_bd {j : Nat} (h : j < 8) : 1 ≤ 15 - 2 * (j : Int) ∧ 15 - 2 * (j : Int) ≤ 15 := by omega
theorem neg_lt' {r : Nat} (h : Hid (r < 2 ^ FloatKind.f64.format.width)) : Hid (Op.negFloat .f64 r < 2 ^ FloatKind.f64.format.width) := neg_lt h

/-- A float; nothing that was there has turned. -/
def RetFW (k : FloatKind) (E : Nat) (w : World) (e : Ending) (w' : World) : Prop := ∃ v, e = .returned (.float k v) ∧ Hid (nz k v = E) ∧ Hid (v < 2 ^ k.format.width) ∧ Below w.heap.size w w'
/-- What AngleTurns gives. -/
def angTurnsV (y x : Nat) : Nat := fcv .f64 .f32 (angleV (fcv .f32 .f64 y) (fcv .f32 .f64 x))
theorem angleV_nan {y x : Nat} (h : (finB .f64 y && finB .f64 x) = false) : fcv .f64 .f32 (angleV y x) = cnan .f32 := by rw [angle_nan h]; decide +kernel
theorem sign_widen {x v : Nat} (hf : finW Ieee.single x) (hv : fcv .f32 .f64 x = v) : FloatKind.f64.format.order v 0 = FloatKind.f32.format.order x 0 := by
  obtain ⟨r, h1, h2, h3⟩ := widen_fin hf
  have e : v = Ieee.double.word (sgW Ieee.single x) r := by rw [← hv]; unfold fcv; rw [h1]; rfl
  have hs := Nat.lt_trans h2 Ieee.double.infRung_lt
  have hvf : finW Ieee.double v := by rw [e]; unfold finW; rw [rgW_word _ _ hs]; exact h2
  have ho : FloatKind.f32.format.order x 0 = some (compare (valW Ieee.single x) (valW Ieee.single 0)) := order_fin Ieee.single hf (finW_zero .f32)
  have hv0 : valW Ieee.single 0 = 0 := by decide +kernel
  rw [order64 hvf fzero, ho, vzero, hv0]
  have hp : valW Ieee.double v = valW Ieee.single x * ((2 ^ 925 : Nat) : Int) := by
    rw [e, valW_word Ieee.double _ hs, h3]
    unfold valW
    generalize 2 ^ 925 = Z
    cases sgW Ieee.single x
    · simp only [Bool.false_eq_true, if_false]; rw [Int.natCast_mul]
    · simp only [if_true]; rw [Int.natCast_mul, Int.neg_mul]
  rw [hp]
  have := compare_scale (valW Ieee.single x) 0 (2 ^ 925) (Nat.two_pow_pos _)
  rw [Int.zero_mul] at this
  rw [this]

theorem implAngle_nan (y x : Nat) (hyl : y < 2 ^ 32) (hxl : x < 2 ^ 32) (h : (finB .f32 x && finB .f32 y) = false) (w : World) :
    Calls Try.prog 19 #[.float .f32 y, .float .f32 x] w (RetFW .f32 (angTurnsV y x) w) := by
  have HA : Hid (angTurnsV y x = cnan .f32) := angleV_nan (by rw [fin_widen, fin_widen, Bool.and_comm]; exact h)
  have HY := hid hyl
  have HX := hid hxl
  have E2 := hid (all2 (finB .f32) x y)
  have HF := hid h
  clear hyl hxl h
  go_enter Try.func19, Try.ntmps19
  go_wp2_with (first | (go_at_call 28; refine (areFinite_any _ _ _ [x, y] _ (len2 _ _) (fcells2 _ _ rfl _ _ _ HX.out HY.out)).mono ?_; rintro e w1 ⟨rfl, n1, rfl⟩; rw [E2.out, HF.out]) | (go_at_call 15; refine (nan_any _).mono ?_; rintro e w1 ⟨rfl, rfl⟩) | (refine wpList_fcv _ rfl _ _ _ rfl .f64 .f32 9221120237041090561 rfl (by decide) rfl Try.underlying28 (narrows_nan nan_word) (by decide) ?_; intro r m hr hc))
  go_ret
  refine ⟨r, rfl, ?_, hc, below_drewN ((Below.refl _ _).alloc (Nat.le_refl _) _) _⟩
  unfold Hid; rw [hr.out, HA.out]; decide +kernel

theorem implAngle_zero (y x : Nat) (hyl : y < 2 ^ 32) (hxl : x < 2 ^ 32) (h : (finB .f32 x && finB .f32 y) = true) (h1 : (FloatKind.f32.format.order x 0 == some .eq) = true) (h2 : (FloatKind.f32.format.order y 0 == some .eq) = true) (w : World) :
    Calls Try.prog 19 #[.float .f32 y, .float .f32 x] w (RetFW .f32 (angTurnsV y x) w) := by
  have HA : Hid (angTurnsV y x = 0) := by
    have hh := h
    rw [Bool.and_eq_true] at hh
    have hx : finW Ieee.single x := of_decide_eq_true hh.1
    have hy : finW Ieee.single y := of_decide_eq_true hh.2
    unfold Hid angTurnsV
    rw [angle_zero (by rw [fin_widen, fin_widen, Bool.and_comm]; exact h) (by unfold zeroB; rw [sign_widen hx rfl, sign_widen hy rfl, h1, h2]; rfl)]
    decide +kernel
  have HY := hid hyl
  have HX := hid hxl
  have E2 := hid (all2 (finB .f32) x y)
  have HF := hid h
  clear hyl hxl h
  go_enter Try.func19, Try.ntmps19
  go_wp2_with (go_at_call 28; refine (areFinite_any _ _ _ [x, y] _ (len2 _ _) (fcells2 _ _ rfl _ _ _ HX.out HY.out)).mono ?_; rintro e w1 ⟨rfl, n1, rfl⟩; rw [E2.out, HF.out])
  go_ret
  exact ⟨0, rfl, by rw [HA.out]; exact nz_num (nanB_fin (finW_zero .f32)), hid32 (by decide), below_drewN ((Below.refl _ _).alloc (Nat.le_refl _) _) _⟩

set_option maxHeartbeats 2000000 in
theorem implAngle_00 (y x vy vx : Nat) (hyl : y < 2 ^ 32) (hxl : x < 2 ^ 32) (h : (finB .f32 x && finB .f32 y) = true) (cy : floatToFloatBits .f32 y .f64 = some vy) (cx : floatToFloatBits .f32 x .f64 = some vx) (ly : vy < 2 ^ 64) (lx : vx < 2 ^ 64) (hHF : (finB .f64 vy && finB .f64 vx) = true) (hHZ : (zeroB vx && zeroB vy) = false)
    (hny : (FloatKind.f32.format.order y 0 == some .lt) = negB vy) (hnx : (FloatKind.f32.format.order x 0 == some .lt) = negB vx) (hV : angTurnsV y x = fcv .f64 .f32 (angleV vy vx)) (ho : overB vy vx = false) (h1 : (FloatKind.f32.format.order x 0 == some .eq) = false) (w : World) :
    Calls Try.prog 19 #[.float .f32 y, .float .f32 x] w (RetFW .f32 (angTurnsV y x) w) := by
  have HY := hid hyl
  have HX := hid hxl
  have E2 := hid (all2 (finB .f32) x y)
  have HF := hid h
  have HFF := hid hHF
  have HZZ := hid hHZ
  have HO := hid ho
  have NX := hid hnx
  have NY := hid hny
  have CY := hid cy
  have CX := hid cx
  have LY := hid ly
  have LX := hid lx
  have HV := hid hV
  obtain ⟨T, hT⟩ : ∃ T, quoT vy vx = T := ⟨_, rfl⟩
  have HQ := hid hT
  have HQ2 : Hid (fop .quo .f64 (vy % 2 ^ 63) (vx % 2 ^ 63) = T) := by rw [← hT]; exact (quo_no ho).symm
  have t3 : (FloatKind.f64.format.order (vy % 2 ^ 63) (vx % 2 ^ 63) == some .gt) = false := ho
  clear hyl hxl h cy cx ly lx hHF hHZ hny hnx hV ho hT
  go_enter Try.func19, Try.ntmps19
  go_wp2_with (first | (go_at_call 28; refine (areFinite_any _ _ _ [x, y] _ (len2 _ _) (fcells2 _ _ rfl _ _ _ HX.out HY.out)).mono ?_; rintro e w1 ⟨rfl, n1, rfl⟩; rw [E2.out, HF.out]) | (refine wpList_fcvx _ rfl _ _ _ rfl _ _ y vy rfl rfl Try.underlying27 CY.out ?_) | (refine wpList_fcvx _ rfl _ _ _ rfl _ _ x vx rfl rfl Try.underlying27 CX.out ?_) | (go_at_call 16; refine (abs_any _ (by first | exact LY.out | exact LX.out) _).mono ?_; rintro e w1 ⟨rfl, rfl⟩) | (refine wpList_fop _ rfl _ _ _ _ _ rfl rfl _ _ _ rfl rfl ?_; intro t0 mt0 ht0 bt0))
  have HT0 : Hid (nz .f64 t0 = tIt T 0) := by unfold Hid; rw [ht0.out]; exact HQ2.out
  have BT0 := bt0
  clear HY HX E2 HF CY CX LY LX h1
  go_loopw [7, 42] (fun t c wr => ∃ j n v : Nat, j ≤ 3 ∧ c = .int .i64 j ∧ t = .float .f64 v ∧ Hid (nz .f64 v = tIt T j) ∧ Hid (v < 2 ^ FloatKind.f64.format.width) ∧ wr = (w.alloc (.cells #[.float .f32 x, .float .f32 y] 28)).drewN n) (fun _ c _ => (3 - intOf c).toNat)
  case atStart => exact ⟨0, _, _, Nat.zero_le _, rfl, rfl, HT0, BT0, rfl⟩
  case round =>
    obtain ⟨j, nj, v, hj, rfl, rfl, hv, bv, rfl⟩ := hrel
    by_cases hlt : j < 3
    · go_wp2_with (first | (refine wpList_fop _ rfl _ _ _ _ _ rfl rfl _ _ _ rfl rfl ?_; intro x mx hx bx) | (go_at_call 29; refine (mathSqrt_any _ _).mono ?_; rintro e w1 ⟨s, ms, rfl, hs, bs, rfl⟩))
      rename_i a na ha ba b nb hb bb d nd hd bd
      go_roundw
      case rel => exact ⟨j + 1, _, x, by omega, by go_num, rfl, t_step hv ha hb hs hd hx, bx, rfl⟩
      case measure => simp [intOf]; omega
    · obtain rfl : j = 3 := by omega
      go_wp2_with (refine wpList_fop _ rfl _ _ _ _ _ rfl rfl _ _ _ rfl rfl ?_; intro u mu hu bu)
      go_loopw [9, 10] (fun p c wr => ∃ i m q : Nat, i ≤ 8 ∧ c = .int .i64 (15 - 2 * (i : Int)) ∧ p = .float .f64 q ∧ Hid (nz .f64 q = pIt u i) ∧ Hid (q < 2 ^ FloatKind.f64.format.width) ∧ wr = (w.alloc (.cells #[.float .f32 x, .float .f32 y] 28)).drewN m) (fun _ c _ => (intOf c + 1).toNat)
      case atStart => exact ⟨0, _, _, Nat.zero_le _, rfl, rfl, nz_num (nanB_fin fzero), by unfold Hid; decide, rfl⟩
      case round =>
        obtain ⟨i, mi, q, hi, rfl, rfl, hq, bq, rfl⟩ := hrel
        by_cases hlt2 : i < 8
        · obtain ⟨q1, q2⟩ := odd_bd hlt2
          go_wp2_with (refine wpList_fop _ rfl _ _ _ _ _ rfl rfl _ _ _ rfl rfl ?_; intro x mx hx bx)
          rename_i a na ha ba b nb hb bb
          go_roundw
          case rel => exact ⟨i + 1, _, x, by omega, congrArg (Value.int .i64) (by omega), rfl, p_step hq ha hb hx, bx, rfl⟩
          case measure => simp [intOf]; omega
        · obtain rfl : i = 8 := by omega
          cases hxn : (FloatKind.f32.format.order x 0 == some .lt)
          · cases hyn : (FloatKind.f32.format.order y 0 == some .lt)
            · go_wp2_with (first | (refine wpList_fop _ rfl _ _ _ _ _ rfl rfl _ _ _ rfl rfl ?_; intro x mx hx bx) | (refine wpList_narrow _ rfl _ _ _ rfl _ rfl rfl Try.underlying28 (by first | exact neg_lt' bx | exact bx) ?_; intro r mr hr br))
              rename_i a0 na0 ha0 ba0 b0 nb0 hb0 bb0
              have r0 := a_end hv hu hq ha0 hb0 hx
              have r1 := a_no1 r0
              have r2 := a_no2 r1
              have r3 := a_no3 r2
              go_ret
              have e3 : nz .f64 (x) = angleV vy vx := by rw [angle_at HFF.out HZZ.out HO.out (NX.out.symm.trans hxn) (NY.out.symm.trans hyn) HQ.out]; exact r3.out
              refine ⟨r, rfl, ?_, br, by repeat (first | exact Below.refl _ _ | refine below_drewN ?_ _ | refine Below.alloc ?_ (by first | exact Nat.le_refl _ | (simp; done) | (simp; omega)) _)⟩
              unfold Hid; rw [hr.out (angle_narrows e3), ← fcv_nz (x) (by decide), e3, HV.out]
            · go_wp2_with (first | (refine wpList_fop _ rfl _ _ _ _ _ rfl rfl _ _ _ rfl rfl ?_; intro x mx hx bx) | (refine wpList_narrow _ rfl _ _ _ rfl _ rfl rfl Try.underlying28 (by first | exact neg_lt' bx | exact bx) ?_; intro r mr hr br))
              rename_i a0 na0 ha0 ba0 b0 nb0 hb0 bb0
              have r0 := a_end hv hu hq ha0 hb0 hx
              have r1 := a_no1 r0
              have r2 := a_no2 r1
              have r3 := a3_yes r2
              go_ret
              have e3 : nz .f64 (Op.negFloat .f64 x) = angleV vy vx := by rw [angle_at HFF.out HZZ.out HO.out (NX.out.symm.trans hxn) (NY.out.symm.trans hyn) HQ.out]; exact r3.out
              refine ⟨r, rfl, ?_, br, by repeat (first | exact Below.refl _ _ | refine below_drewN ?_ _ | refine Below.alloc ?_ (by first | exact Nat.le_refl _ | (simp; done) | (simp; omega)) _)⟩
              unfold Hid; rw [hr.out (angle_narrows e3), ← fcv_nz (Op.negFloat .f64 x) (by decide), e3, HV.out]
          · cases hyn : (FloatKind.f32.format.order y 0 == some .lt)
            · go_wp2_with (first | (refine wpList_fop _ rfl _ _ _ _ _ rfl rfl _ _ _ rfl rfl ?_; intro x mx hx bx) | (refine wpList_narrow _ rfl _ _ _ rfl _ rfl rfl Try.underlying28 (by first | exact neg_lt' bx | exact bx) ?_; intro r mr hr br))
              rename_i a0 na0 ha0 ba0 b0 nb0 hb0 bb0 c0 nc0 hc0 bc0
              have r0 := a_end hv hu hq ha0 hb0 hc0
              have r1 := a_no1 r0
              have r2 := a2_yes r1 hx
              have r3 := a_no3 r2
              go_ret
              have e3 : nz .f64 (x) = angleV vy vx := by rw [angle_at HFF.out HZZ.out HO.out (NX.out.symm.trans hxn) (NY.out.symm.trans hyn) HQ.out]; exact r3.out
              refine ⟨r, rfl, ?_, br, by repeat (first | exact Below.refl _ _ | refine below_drewN ?_ _ | refine Below.alloc ?_ (by first | exact Nat.le_refl _ | (simp; done) | (simp; omega)) _)⟩
              unfold Hid; rw [hr.out (angle_narrows e3), ← fcv_nz (x) (by decide), e3, HV.out]
            · go_wp2_with (first | (refine wpList_fop _ rfl _ _ _ _ _ rfl rfl _ _ _ rfl rfl ?_; intro x mx hx bx) | (refine wpList_narrow _ rfl _ _ _ rfl _ rfl rfl Try.underlying28 (by first | exact neg_lt' bx | exact bx) ?_; intro r mr hr br))
              rename_i a0 na0 ha0 ba0 b0 nb0 hb0 bb0 c0 nc0 hc0 bc0
              have r0 := a_end hv hu hq ha0 hb0 hc0
              have r1 := a_no1 r0
              have r2 := a2_yes r1 hx
              have r3 := a3_yes r2
              go_ret
              have e3 : nz .f64 (Op.negFloat .f64 x) = angleV vy vx := by rw [angle_at HFF.out HZZ.out HO.out (NX.out.symm.trans hxn) (NY.out.symm.trans hyn) HQ.out]; exact r3.out
              refine ⟨r, rfl, ?_, br, by repeat (first | exact Below.refl _ _ | refine below_drewN ?_ _ | refine Below.alloc ?_ (by first | exact Nat.le_refl _ | (simp; done) | (simp; omega)) _)⟩
              unfold Hid; rw [hr.out (angle_narrows e3), ← fcv_nz (Op.negFloat .f64 x) (by decide), e3, HV.out]

set_option maxHeartbeats 2000000 in
theorem implAngle_01 (y x vy vx : Nat) (hyl : y < 2 ^ 32) (hxl : x < 2 ^ 32) (h : (finB .f32 x && finB .f32 y) = true) (cy : floatToFloatBits .f32 y .f64 = some vy) (cx : floatToFloatBits .f32 x .f64 = some vx) (ly : vy < 2 ^ 64) (lx : vx < 2 ^ 64) (hHF : (finB .f64 vy && finB .f64 vx) = true) (hHZ : (zeroB vx && zeroB vy) = false)
    (hny : (FloatKind.f32.format.order y 0 == some .lt) = negB vy) (hnx : (FloatKind.f32.format.order x 0 == some .lt) = negB vx) (hV : angTurnsV y x = fcv .f64 .f32 (angleV vy vx)) (ho : overB vy vx = false) (h1 : (FloatKind.f32.format.order x 0 == some .eq) = true) (h2 : (FloatKind.f32.format.order y 0 == some .eq) = false) (w : World) :
    Calls Try.prog 19 #[.float .f32 y, .float .f32 x] w (RetFW .f32 (angTurnsV y x) w) := by
  have HY := hid hyl
  have HX := hid hxl
  have E2 := hid (all2 (finB .f32) x y)
  have HF := hid h
  have HFF := hid hHF
  have HZZ := hid hHZ
  have HO := hid ho
  have NX := hid hnx
  have NY := hid hny
  have CY := hid cy
  have CX := hid cx
  have LY := hid ly
  have LX := hid lx
  have HV := hid hV
  obtain ⟨T, hT⟩ : ∃ T, quoT vy vx = T := ⟨_, rfl⟩
  have HQ := hid hT
  have HQ2 : Hid (fop .quo .f64 (vy % 2 ^ 63) (vx % 2 ^ 63) = T) := by rw [← hT]; exact (quo_no ho).symm
  have t3 : (FloatKind.f64.format.order (vy % 2 ^ 63) (vx % 2 ^ 63) == some .gt) = false := ho
  clear hyl hxl h cy cx ly lx hHF hHZ hny hnx hV ho hT
  go_enter Try.func19, Try.ntmps19
  go_wp2_with (first | (go_at_call 28; refine (areFinite_any _ _ _ [x, y] _ (len2 _ _) (fcells2 _ _ rfl _ _ _ HX.out HY.out)).mono ?_; rintro e w1 ⟨rfl, n1, rfl⟩; rw [E2.out, HF.out]) | (refine wpList_fcvx _ rfl _ _ _ rfl _ _ y vy rfl rfl Try.underlying27 CY.out ?_) | (refine wpList_fcvx _ rfl _ _ _ rfl _ _ x vx rfl rfl Try.underlying27 CX.out ?_) | (go_at_call 16; refine (abs_any _ (by first | exact LY.out | exact LX.out) _).mono ?_; rintro e w1 ⟨rfl, rfl⟩) | (refine wpList_fop _ rfl _ _ _ _ _ rfl rfl _ _ _ rfl rfl ?_; intro t0 mt0 ht0 bt0))
  have HT0 : Hid (nz .f64 t0 = tIt T 0) := by unfold Hid; rw [ht0.out]; exact HQ2.out
  have BT0 := bt0
  clear HY HX E2 HF CY CX LY LX h1 h2
  go_loopw [7, 42] (fun t c wr => ∃ j n v : Nat, j ≤ 3 ∧ c = .int .i64 j ∧ t = .float .f64 v ∧ Hid (nz .f64 v = tIt T j) ∧ Hid (v < 2 ^ FloatKind.f64.format.width) ∧ wr = (w.alloc (.cells #[.float .f32 x, .float .f32 y] 28)).drewN n) (fun _ c _ => (3 - intOf c).toNat)
  case atStart => exact ⟨0, _, _, Nat.zero_le _, rfl, rfl, HT0, BT0, rfl⟩
  case round =>
    obtain ⟨j, nj, v, hj, rfl, rfl, hv, bv, rfl⟩ := hrel
    by_cases hlt : j < 3
    · go_wp2_with (first | (refine wpList_fop _ rfl _ _ _ _ _ rfl rfl _ _ _ rfl rfl ?_; intro x mx hx bx) | (go_at_call 29; refine (mathSqrt_any _ _).mono ?_; rintro e w1 ⟨s, ms, rfl, hs, bs, rfl⟩))
      rename_i a na ha ba b nb hb bb d nd hd bd
      go_roundw
      case rel => exact ⟨j + 1, _, x, by omega, by go_num, rfl, t_step hv ha hb hs hd hx, bx, rfl⟩
      case measure => simp [intOf]; omega
    · obtain rfl : j = 3 := by omega
      go_wp2_with (refine wpList_fop _ rfl _ _ _ _ _ rfl rfl _ _ _ rfl rfl ?_; intro u mu hu bu)
      go_loopw [9, 10] (fun p c wr => ∃ i m q : Nat, i ≤ 8 ∧ c = .int .i64 (15 - 2 * (i : Int)) ∧ p = .float .f64 q ∧ Hid (nz .f64 q = pIt u i) ∧ Hid (q < 2 ^ FloatKind.f64.format.width) ∧ wr = (w.alloc (.cells #[.float .f32 x, .float .f32 y] 28)).drewN m) (fun _ c _ => (intOf c + 1).toNat)
      case atStart => exact ⟨0, _, _, Nat.zero_le _, rfl, rfl, nz_num (nanB_fin fzero), by unfold Hid; decide, rfl⟩
      case round =>
        obtain ⟨i, mi, q, hi, rfl, rfl, hq, bq, rfl⟩ := hrel
        by_cases hlt2 : i < 8
        · obtain ⟨q1, q2⟩ := odd_bd hlt2
          go_wp2_with (refine wpList_fop _ rfl _ _ _ _ _ rfl rfl _ _ _ rfl rfl ?_; intro x mx hx bx)
          rename_i a na ha ba b nb hb bb
          go_roundw
          case rel => exact ⟨i + 1, _, x, by omega, congrArg (Value.int .i64) (by omega), rfl, p_step hq ha hb hx, bx, rfl⟩
          case measure => simp [intOf]; omega
        · obtain rfl : i = 8 := by omega
          cases hxn : (FloatKind.f32.format.order x 0 == some .lt)
          · cases hyn : (FloatKind.f32.format.order y 0 == some .lt)
            · go_wp2_with (first | (refine wpList_fop _ rfl _ _ _ _ _ rfl rfl _ _ _ rfl rfl ?_; intro x mx hx bx) | (refine wpList_narrow _ rfl _ _ _ rfl _ rfl rfl Try.underlying28 (by first | exact neg_lt' bx | exact bx) ?_; intro r mr hr br))
              rename_i a0 na0 ha0 ba0 b0 nb0 hb0 bb0
              have r0 := a_end hv hu hq ha0 hb0 hx
              have r1 := a_no1 r0
              have r2 := a_no2 r1
              have r3 := a_no3 r2
              go_ret
              have e3 : nz .f64 (x) = angleV vy vx := by rw [angle_at HFF.out HZZ.out HO.out (NX.out.symm.trans hxn) (NY.out.symm.trans hyn) HQ.out]; exact r3.out
              refine ⟨r, rfl, ?_, br, by repeat (first | exact Below.refl _ _ | refine below_drewN ?_ _ | refine Below.alloc ?_ (by first | exact Nat.le_refl _ | (simp; done) | (simp; omega)) _)⟩
              unfold Hid; rw [hr.out (angle_narrows e3), ← fcv_nz (x) (by decide), e3, HV.out]
            · go_wp2_with (first | (refine wpList_fop _ rfl _ _ _ _ _ rfl rfl _ _ _ rfl rfl ?_; intro x mx hx bx) | (refine wpList_narrow _ rfl _ _ _ rfl _ rfl rfl Try.underlying28 (by first | exact neg_lt' bx | exact bx) ?_; intro r mr hr br))
              rename_i a0 na0 ha0 ba0 b0 nb0 hb0 bb0
              have r0 := a_end hv hu hq ha0 hb0 hx
              have r1 := a_no1 r0
              have r2 := a_no2 r1
              have r3 := a3_yes r2
              go_ret
              have e3 : nz .f64 (Op.negFloat .f64 x) = angleV vy vx := by rw [angle_at HFF.out HZZ.out HO.out (NX.out.symm.trans hxn) (NY.out.symm.trans hyn) HQ.out]; exact r3.out
              refine ⟨r, rfl, ?_, br, by repeat (first | exact Below.refl _ _ | refine below_drewN ?_ _ | refine Below.alloc ?_ (by first | exact Nat.le_refl _ | (simp; done) | (simp; omega)) _)⟩
              unfold Hid; rw [hr.out (angle_narrows e3), ← fcv_nz (Op.negFloat .f64 x) (by decide), e3, HV.out]
          · cases hyn : (FloatKind.f32.format.order y 0 == some .lt)
            · go_wp2_with (first | (refine wpList_fop _ rfl _ _ _ _ _ rfl rfl _ _ _ rfl rfl ?_; intro x mx hx bx) | (refine wpList_narrow _ rfl _ _ _ rfl _ rfl rfl Try.underlying28 (by first | exact neg_lt' bx | exact bx) ?_; intro r mr hr br))
              rename_i a0 na0 ha0 ba0 b0 nb0 hb0 bb0 c0 nc0 hc0 bc0
              have r0 := a_end hv hu hq ha0 hb0 hc0
              have r1 := a_no1 r0
              have r2 := a2_yes r1 hx
              have r3 := a_no3 r2
              go_ret
              have e3 : nz .f64 (x) = angleV vy vx := by rw [angle_at HFF.out HZZ.out HO.out (NX.out.symm.trans hxn) (NY.out.symm.trans hyn) HQ.out]; exact r3.out
              refine ⟨r, rfl, ?_, br, by repeat (first | exact Below.refl _ _ | refine below_drewN ?_ _ | refine Below.alloc ?_ (by first | exact Nat.le_refl _ | (simp; done) | (simp; omega)) _)⟩
              unfold Hid; rw [hr.out (angle_narrows e3), ← fcv_nz (x) (by decide), e3, HV.out]
            · go_wp2_with (first | (refine wpList_fop _ rfl _ _ _ _ _ rfl rfl _ _ _ rfl rfl ?_; intro x mx hx bx) | (refine wpList_narrow _ rfl _ _ _ rfl _ rfl rfl Try.underlying28 (by first | exact neg_lt' bx | exact bx) ?_; intro r mr hr br))
              rename_i a0 na0 ha0 ba0 b0 nb0 hb0 bb0 c0 nc0 hc0 bc0
              have r0 := a_end hv hu hq ha0 hb0 hc0
              have r1 := a_no1 r0
              have r2 := a2_yes r1 hx
              have r3 := a3_yes r2
              go_ret
              have e3 : nz .f64 (Op.negFloat .f64 x) = angleV vy vx := by rw [angle_at HFF.out HZZ.out HO.out (NX.out.symm.trans hxn) (NY.out.symm.trans hyn) HQ.out]; exact r3.out
              refine ⟨r, rfl, ?_, br, by repeat (first | exact Below.refl _ _ | refine below_drewN ?_ _ | refine Below.alloc ?_ (by first | exact Nat.le_refl _ | (simp; done) | (simp; omega)) _)⟩
              unfold Hid; rw [hr.out (angle_narrows e3), ← fcv_nz (Op.negFloat .f64 x) (by decide), e3, HV.out]

set_option maxHeartbeats 2000000 in
theorem implAngle_10 (y x vy vx : Nat) (hyl : y < 2 ^ 32) (hxl : x < 2 ^ 32) (h : (finB .f32 x && finB .f32 y) = true) (cy : floatToFloatBits .f32 y .f64 = some vy) (cx : floatToFloatBits .f32 x .f64 = some vx) (ly : vy < 2 ^ 64) (lx : vx < 2 ^ 64) (hHF : (finB .f64 vy && finB .f64 vx) = true) (hHZ : (zeroB vx && zeroB vy) = false)
    (hny : (FloatKind.f32.format.order y 0 == some .lt) = negB vy) (hnx : (FloatKind.f32.format.order x 0 == some .lt) = negB vx) (hV : angTurnsV y x = fcv .f64 .f32 (angleV vy vx)) (ho : overB vy vx = true) (h1 : (FloatKind.f32.format.order x 0 == some .eq) = false) (w : World) :
    Calls Try.prog 19 #[.float .f32 y, .float .f32 x] w (RetFW .f32 (angTurnsV y x) w) := by
  have HY := hid hyl
  have HX := hid hxl
  have E2 := hid (all2 (finB .f32) x y)
  have HF := hid h
  have HFF := hid hHF
  have HZZ := hid hHZ
  have HO := hid ho
  have NX := hid hnx
  have NY := hid hny
  have CY := hid cy
  have CX := hid cx
  have LY := hid ly
  have LX := hid lx
  have HV := hid hV
  obtain ⟨T, hT⟩ : ∃ T, quoT vy vx = T := ⟨_, rfl⟩
  have HQ := hid hT
  have HQ2 : Hid (fop .quo .f64 (vx % 2 ^ 63) (vy % 2 ^ 63) = T) := by rw [← hT]; exact (quo_yes ho).symm
  have t3 : (FloatKind.f64.format.order (vy % 2 ^ 63) (vx % 2 ^ 63) == some .gt) = true := ho
  clear hyl hxl h cy cx ly lx hHF hHZ hny hnx hV ho hT
  go_enter Try.func19, Try.ntmps19
  go_wp2_with (first | (go_at_call 28; refine (areFinite_any _ _ _ [x, y] _ (len2 _ _) (fcells2 _ _ rfl _ _ _ HX.out HY.out)).mono ?_; rintro e w1 ⟨rfl, n1, rfl⟩; rw [E2.out, HF.out]) | (refine wpList_fcvx _ rfl _ _ _ rfl _ _ y vy rfl rfl Try.underlying27 CY.out ?_) | (refine wpList_fcvx _ rfl _ _ _ rfl _ _ x vx rfl rfl Try.underlying27 CX.out ?_) | (go_at_call 16; refine (abs_any _ (by first | exact LY.out | exact LX.out) _).mono ?_; rintro e w1 ⟨rfl, rfl⟩) | (refine wpList_fop _ rfl _ _ _ _ _ rfl rfl _ _ _ rfl rfl ?_; intro t0 mt0 ht0 bt0))
  have HT0 : Hid (nz .f64 t0 = tIt T 0) := by unfold Hid; rw [ht0.out]; exact HQ2.out
  have BT0 := bt0
  clear HY HX E2 HF CY CX LY LX h1
  go_loopw [7, 42] (fun t c wr => ∃ j n v : Nat, j ≤ 3 ∧ c = .int .i64 j ∧ t = .float .f64 v ∧ Hid (nz .f64 v = tIt T j) ∧ Hid (v < 2 ^ FloatKind.f64.format.width) ∧ wr = (w.alloc (.cells #[.float .f32 x, .float .f32 y] 28)).drewN n) (fun _ c _ => (3 - intOf c).toNat)
  case atStart => exact ⟨0, _, _, Nat.zero_le _, rfl, rfl, HT0, BT0, rfl⟩
  case round =>
    obtain ⟨j, nj, v, hj, rfl, rfl, hv, bv, rfl⟩ := hrel
    by_cases hlt : j < 3
    · go_wp2_with (first | (refine wpList_fop _ rfl _ _ _ _ _ rfl rfl _ _ _ rfl rfl ?_; intro x mx hx bx) | (go_at_call 29; refine (mathSqrt_any _ _).mono ?_; rintro e w1 ⟨s, ms, rfl, hs, bs, rfl⟩))
      rename_i a na ha ba b nb hb bb d nd hd bd
      go_roundw
      case rel => exact ⟨j + 1, _, x, by omega, by go_num, rfl, t_step hv ha hb hs hd hx, bx, rfl⟩
      case measure => simp [intOf]; omega
    · obtain rfl : j = 3 := by omega
      go_wp2_with (refine wpList_fop _ rfl _ _ _ _ _ rfl rfl _ _ _ rfl rfl ?_; intro u mu hu bu)
      go_loopw [9, 10] (fun p c wr => ∃ i m q : Nat, i ≤ 8 ∧ c = .int .i64 (15 - 2 * (i : Int)) ∧ p = .float .f64 q ∧ Hid (nz .f64 q = pIt u i) ∧ Hid (q < 2 ^ FloatKind.f64.format.width) ∧ wr = (w.alloc (.cells #[.float .f32 x, .float .f32 y] 28)).drewN m) (fun _ c _ => (intOf c + 1).toNat)
      case atStart => exact ⟨0, _, _, Nat.zero_le _, rfl, rfl, nz_num (nanB_fin fzero), by unfold Hid; decide, rfl⟩
      case round =>
        obtain ⟨i, mi, q, hi, rfl, rfl, hq, bq, rfl⟩ := hrel
        by_cases hlt2 : i < 8
        · obtain ⟨q1, q2⟩ := odd_bd hlt2
          go_wp2_with (refine wpList_fop _ rfl _ _ _ _ _ rfl rfl _ _ _ rfl rfl ?_; intro x mx hx bx)
          rename_i a na ha ba b nb hb bb
          go_roundw
          case rel => exact ⟨i + 1, _, x, by omega, congrArg (Value.int .i64) (by omega), rfl, p_step hq ha hb hx, bx, rfl⟩
          case measure => simp [intOf]; omega
        · obtain rfl : i = 8 := by omega
          cases hxn : (FloatKind.f32.format.order x 0 == some .lt)
          · cases hyn : (FloatKind.f32.format.order y 0 == some .lt)
            · go_wp2_with (first | (refine wpList_fop _ rfl _ _ _ _ _ rfl rfl _ _ _ rfl rfl ?_; intro x mx hx bx) | (refine wpList_narrow _ rfl _ _ _ rfl _ rfl rfl Try.underlying28 (by first | exact neg_lt' bx | exact bx) ?_; intro r mr hr br))
              rename_i a0 na0 ha0 ba0 b0 nb0 hb0 bb0 c0 nc0 hc0 bc0
              have r0 := a_end hv hu hq ha0 hb0 hc0
              have r1 := a1_yes r0 hx
              have r2 := a_no2 r1
              have r3 := a_no3 r2
              go_ret
              have e3 : nz .f64 (x) = angleV vy vx := by rw [angle_at HFF.out HZZ.out HO.out (NX.out.symm.trans hxn) (NY.out.symm.trans hyn) HQ.out]; exact r3.out
              refine ⟨r, rfl, ?_, br, by repeat (first | exact Below.refl _ _ | refine below_drewN ?_ _ | refine Below.alloc ?_ (by first | exact Nat.le_refl _ | (simp; done) | (simp; omega)) _)⟩
              unfold Hid; rw [hr.out (angle_narrows e3), ← fcv_nz (x) (by decide), e3, HV.out]
            · go_wp2_with (first | (refine wpList_fop _ rfl _ _ _ _ _ rfl rfl _ _ _ rfl rfl ?_; intro x mx hx bx) | (refine wpList_narrow _ rfl _ _ _ rfl _ rfl rfl Try.underlying28 (by first | exact neg_lt' bx | exact bx) ?_; intro r mr hr br))
              rename_i a0 na0 ha0 ba0 b0 nb0 hb0 bb0 c0 nc0 hc0 bc0
              have r0 := a_end hv hu hq ha0 hb0 hc0
              have r1 := a1_yes r0 hx
              have r2 := a_no2 r1
              have r3 := a3_yes r2
              go_ret
              have e3 : nz .f64 (Op.negFloat .f64 x) = angleV vy vx := by rw [angle_at HFF.out HZZ.out HO.out (NX.out.symm.trans hxn) (NY.out.symm.trans hyn) HQ.out]; exact r3.out
              refine ⟨r, rfl, ?_, br, by repeat (first | exact Below.refl _ _ | refine below_drewN ?_ _ | refine Below.alloc ?_ (by first | exact Nat.le_refl _ | (simp; done) | (simp; omega)) _)⟩
              unfold Hid; rw [hr.out (angle_narrows e3), ← fcv_nz (Op.negFloat .f64 x) (by decide), e3, HV.out]
          · cases hyn : (FloatKind.f32.format.order y 0 == some .lt)
            · go_wp2_with (first | (refine wpList_fop _ rfl _ _ _ _ _ rfl rfl _ _ _ rfl rfl ?_; intro x mx hx bx) | (refine wpList_narrow _ rfl _ _ _ rfl _ rfl rfl Try.underlying28 (by first | exact neg_lt' bx | exact bx) ?_; intro r mr hr br))
              rename_i a0 na0 ha0 ba0 b0 nb0 hb0 bb0 c0 nc0 hc0 bc0 d0 nd0 hd0 bd0
              have r0 := a_end hv hu hq ha0 hb0 hc0
              have r1 := a1_yes r0 hd0
              have r2 := a2_yes r1 hx
              have r3 := a_no3 r2
              go_ret
              have e3 : nz .f64 (x) = angleV vy vx := by rw [angle_at HFF.out HZZ.out HO.out (NX.out.symm.trans hxn) (NY.out.symm.trans hyn) HQ.out]; exact r3.out
              refine ⟨r, rfl, ?_, br, by repeat (first | exact Below.refl _ _ | refine below_drewN ?_ _ | refine Below.alloc ?_ (by first | exact Nat.le_refl _ | (simp; done) | (simp; omega)) _)⟩
              unfold Hid; rw [hr.out (angle_narrows e3), ← fcv_nz (x) (by decide), e3, HV.out]
            · go_wp2_with (first | (refine wpList_fop _ rfl _ _ _ _ _ rfl rfl _ _ _ rfl rfl ?_; intro x mx hx bx) | (refine wpList_narrow _ rfl _ _ _ rfl _ rfl rfl Try.underlying28 (by first | exact neg_lt' bx | exact bx) ?_; intro r mr hr br))
              rename_i a0 na0 ha0 ba0 b0 nb0 hb0 bb0 c0 nc0 hc0 bc0 d0 nd0 hd0 bd0
              have r0 := a_end hv hu hq ha0 hb0 hc0
              have r1 := a1_yes r0 hd0
              have r2 := a2_yes r1 hx
              have r3 := a3_yes r2
              go_ret
              have e3 : nz .f64 (Op.negFloat .f64 x) = angleV vy vx := by rw [angle_at HFF.out HZZ.out HO.out (NX.out.symm.trans hxn) (NY.out.symm.trans hyn) HQ.out]; exact r3.out
              refine ⟨r, rfl, ?_, br, by repeat (first | exact Below.refl _ _ | refine below_drewN ?_ _ | refine Below.alloc ?_ (by first | exact Nat.le_refl _ | (simp; done) | (simp; omega)) _)⟩
              unfold Hid; rw [hr.out (angle_narrows e3), ← fcv_nz (Op.negFloat .f64 x) (by decide), e3, HV.out]

set_option maxHeartbeats 2000000 in
theorem implAngle_11 (y x vy vx : Nat) (hyl : y < 2 ^ 32) (hxl : x < 2 ^ 32) (h : (finB .f32 x && finB .f32 y) = true) (cy : floatToFloatBits .f32 y .f64 = some vy) (cx : floatToFloatBits .f32 x .f64 = some vx) (ly : vy < 2 ^ 64) (lx : vx < 2 ^ 64) (hHF : (finB .f64 vy && finB .f64 vx) = true) (hHZ : (zeroB vx && zeroB vy) = false)
    (hny : (FloatKind.f32.format.order y 0 == some .lt) = negB vy) (hnx : (FloatKind.f32.format.order x 0 == some .lt) = negB vx) (hV : angTurnsV y x = fcv .f64 .f32 (angleV vy vx)) (ho : overB vy vx = true) (h1 : (FloatKind.f32.format.order x 0 == some .eq) = true) (h2 : (FloatKind.f32.format.order y 0 == some .eq) = false) (w : World) :
    Calls Try.prog 19 #[.float .f32 y, .float .f32 x] w (RetFW .f32 (angTurnsV y x) w) := by
  have HY := hid hyl
  have HX := hid hxl
  have E2 := hid (all2 (finB .f32) x y)
  have HF := hid h
  have HFF := hid hHF
  have HZZ := hid hHZ
  have HO := hid ho
  have NX := hid hnx
  have NY := hid hny
  have CY := hid cy
  have CX := hid cx
  have LY := hid ly
  have LX := hid lx
  have HV := hid hV
  obtain ⟨T, hT⟩ : ∃ T, quoT vy vx = T := ⟨_, rfl⟩
  have HQ := hid hT
  have HQ2 : Hid (fop .quo .f64 (vx % 2 ^ 63) (vy % 2 ^ 63) = T) := by rw [← hT]; exact (quo_yes ho).symm
  have t3 : (FloatKind.f64.format.order (vy % 2 ^ 63) (vx % 2 ^ 63) == some .gt) = true := ho
  clear hyl hxl h cy cx ly lx hHF hHZ hny hnx hV ho hT
  go_enter Try.func19, Try.ntmps19
  go_wp2_with (first | (go_at_call 28; refine (areFinite_any _ _ _ [x, y] _ (len2 _ _) (fcells2 _ _ rfl _ _ _ HX.out HY.out)).mono ?_; rintro e w1 ⟨rfl, n1, rfl⟩; rw [E2.out, HF.out]) | (refine wpList_fcvx _ rfl _ _ _ rfl _ _ y vy rfl rfl Try.underlying27 CY.out ?_) | (refine wpList_fcvx _ rfl _ _ _ rfl _ _ x vx rfl rfl Try.underlying27 CX.out ?_) | (go_at_call 16; refine (abs_any _ (by first | exact LY.out | exact LX.out) _).mono ?_; rintro e w1 ⟨rfl, rfl⟩) | (refine wpList_fop _ rfl _ _ _ _ _ rfl rfl _ _ _ rfl rfl ?_; intro t0 mt0 ht0 bt0))
  have HT0 : Hid (nz .f64 t0 = tIt T 0) := by unfold Hid; rw [ht0.out]; exact HQ2.out
  have BT0 := bt0
  clear HY HX E2 HF CY CX LY LX h1 h2
  go_loopw [7, 42] (fun t c wr => ∃ j n v : Nat, j ≤ 3 ∧ c = .int .i64 j ∧ t = .float .f64 v ∧ Hid (nz .f64 v = tIt T j) ∧ Hid (v < 2 ^ FloatKind.f64.format.width) ∧ wr = (w.alloc (.cells #[.float .f32 x, .float .f32 y] 28)).drewN n) (fun _ c _ => (3 - intOf c).toNat)
  case atStart => exact ⟨0, _, _, Nat.zero_le _, rfl, rfl, HT0, BT0, rfl⟩
  case round =>
    obtain ⟨j, nj, v, hj, rfl, rfl, hv, bv, rfl⟩ := hrel
    by_cases hlt : j < 3
    · go_wp2_with (first | (refine wpList_fop _ rfl _ _ _ _ _ rfl rfl _ _ _ rfl rfl ?_; intro x mx hx bx) | (go_at_call 29; refine (mathSqrt_any _ _).mono ?_; rintro e w1 ⟨s, ms, rfl, hs, bs, rfl⟩))
      rename_i a na ha ba b nb hb bb d nd hd bd
      go_roundw
      case rel => exact ⟨j + 1, _, x, by omega, by go_num, rfl, t_step hv ha hb hs hd hx, bx, rfl⟩
      case measure => simp [intOf]; omega
    · obtain rfl : j = 3 := by omega
      go_wp2_with (refine wpList_fop _ rfl _ _ _ _ _ rfl rfl _ _ _ rfl rfl ?_; intro u mu hu bu)
      go_loopw [9, 10] (fun p c wr => ∃ i m q : Nat, i ≤ 8 ∧ c = .int .i64 (15 - 2 * (i : Int)) ∧ p = .float .f64 q ∧ Hid (nz .f64 q = pIt u i) ∧ Hid (q < 2 ^ FloatKind.f64.format.width) ∧ wr = (w.alloc (.cells #[.float .f32 x, .float .f32 y] 28)).drewN m) (fun _ c _ => (intOf c + 1).toNat)
      case atStart => exact ⟨0, _, _, Nat.zero_le _, rfl, rfl, nz_num (nanB_fin fzero), by unfold Hid; decide, rfl⟩
      case round =>
        obtain ⟨i, mi, q, hi, rfl, rfl, hq, bq, rfl⟩ := hrel
        by_cases hlt2 : i < 8
        · obtain ⟨q1, q2⟩ := odd_bd hlt2
          go_wp2_with (refine wpList_fop _ rfl _ _ _ _ _ rfl rfl _ _ _ rfl rfl ?_; intro x mx hx bx)
          rename_i a na ha ba b nb hb bb
          go_roundw
          case rel => exact ⟨i + 1, _, x, by omega, congrArg (Value.int .i64) (by omega), rfl, p_step hq ha hb hx, bx, rfl⟩
          case measure => simp [intOf]; omega
        · obtain rfl : i = 8 := by omega
          cases hxn : (FloatKind.f32.format.order x 0 == some .lt)
          · cases hyn : (FloatKind.f32.format.order y 0 == some .lt)
            · go_wp2_with (first | (refine wpList_fop _ rfl _ _ _ _ _ rfl rfl _ _ _ rfl rfl ?_; intro x mx hx bx) | (refine wpList_narrow _ rfl _ _ _ rfl _ rfl rfl Try.underlying28 (by first | exact neg_lt' bx | exact bx) ?_; intro r mr hr br))
              rename_i a0 na0 ha0 ba0 b0 nb0 hb0 bb0 c0 nc0 hc0 bc0
              have r0 := a_end hv hu hq ha0 hb0 hc0
              have r1 := a1_yes r0 hx
              have r2 := a_no2 r1
              have r3 := a_no3 r2
              go_ret
              have e3 : nz .f64 (x) = angleV vy vx := by rw [angle_at HFF.out HZZ.out HO.out (NX.out.symm.trans hxn) (NY.out.symm.trans hyn) HQ.out]; exact r3.out
              refine ⟨r, rfl, ?_, br, by repeat (first | exact Below.refl _ _ | refine below_drewN ?_ _ | refine Below.alloc ?_ (by first | exact Nat.le_refl _ | (simp; done) | (simp; omega)) _)⟩
              unfold Hid; rw [hr.out (angle_narrows e3), ← fcv_nz (x) (by decide), e3, HV.out]
            · go_wp2_with (first | (refine wpList_fop _ rfl _ _ _ _ _ rfl rfl _ _ _ rfl rfl ?_; intro x mx hx bx) | (refine wpList_narrow _ rfl _ _ _ rfl _ rfl rfl Try.underlying28 (by first | exact neg_lt' bx | exact bx) ?_; intro r mr hr br))
              rename_i a0 na0 ha0 ba0 b0 nb0 hb0 bb0 c0 nc0 hc0 bc0
              have r0 := a_end hv hu hq ha0 hb0 hc0
              have r1 := a1_yes r0 hx
              have r2 := a_no2 r1
              have r3 := a3_yes r2
              go_ret
              have e3 : nz .f64 (Op.negFloat .f64 x) = angleV vy vx := by rw [angle_at HFF.out HZZ.out HO.out (NX.out.symm.trans hxn) (NY.out.symm.trans hyn) HQ.out]; exact r3.out
              refine ⟨r, rfl, ?_, br, by repeat (first | exact Below.refl _ _ | refine below_drewN ?_ _ | refine Below.alloc ?_ (by first | exact Nat.le_refl _ | (simp; done) | (simp; omega)) _)⟩
              unfold Hid; rw [hr.out (angle_narrows e3), ← fcv_nz (Op.negFloat .f64 x) (by decide), e3, HV.out]
          · cases hyn : (FloatKind.f32.format.order y 0 == some .lt)
            · go_wp2_with (first | (refine wpList_fop _ rfl _ _ _ _ _ rfl rfl _ _ _ rfl rfl ?_; intro x mx hx bx) | (refine wpList_narrow _ rfl _ _ _ rfl _ rfl rfl Try.underlying28 (by first | exact neg_lt' bx | exact bx) ?_; intro r mr hr br))
              rename_i a0 na0 ha0 ba0 b0 nb0 hb0 bb0 c0 nc0 hc0 bc0 d0 nd0 hd0 bd0
              have r0 := a_end hv hu hq ha0 hb0 hc0
              have r1 := a1_yes r0 hd0
              have r2 := a2_yes r1 hx
              have r3 := a_no3 r2
              go_ret
              have e3 : nz .f64 (x) = angleV vy vx := by rw [angle_at HFF.out HZZ.out HO.out (NX.out.symm.trans hxn) (NY.out.symm.trans hyn) HQ.out]; exact r3.out
              refine ⟨r, rfl, ?_, br, by repeat (first | exact Below.refl _ _ | refine below_drewN ?_ _ | refine Below.alloc ?_ (by first | exact Nat.le_refl _ | (simp; done) | (simp; omega)) _)⟩
              unfold Hid; rw [hr.out (angle_narrows e3), ← fcv_nz (x) (by decide), e3, HV.out]
            · go_wp2_with (first | (refine wpList_fop _ rfl _ _ _ _ _ rfl rfl _ _ _ rfl rfl ?_; intro x mx hx bx) | (refine wpList_narrow _ rfl _ _ _ rfl _ rfl rfl Try.underlying28 (by first | exact neg_lt' bx | exact bx) ?_; intro r mr hr br))
              rename_i a0 na0 ha0 ba0 b0 nb0 hb0 bb0 c0 nc0 hc0 bc0 d0 nd0 hd0 bd0
              have r0 := a_end hv hu hq ha0 hb0 hc0
              have r1 := a1_yes r0 hd0
              have r2 := a2_yes r1 hx
              have r3 := a3_yes r2
              go_ret
              have e3 : nz .f64 (Op.negFloat .f64 x) = angleV vy vx := by rw [angle_at HFF.out HZZ.out HO.out (NX.out.symm.trans hxn) (NY.out.symm.trans hyn) HQ.out]; exact r3.out
              refine ⟨r, rfl, ?_, br, by repeat (first | exact Below.refl _ _ | refine below_drewN ?_ _ | refine Below.alloc ?_ (by first | exact Nat.le_refl _ | (simp; done) | (simp; omega)) _)⟩
              unfold Hid; rw [hr.out (angle_narrows e3), ← fcv_nz (Op.negFloat .f64 x) (by decide), e3, HV.out]

theorem implAngle_any (y x : Nat) (hyl : y < 2 ^ 32) (hxl : x < 2 ^ 32) (w : World) :
    Calls Try.prog 19 #[.float .f32 y, .float .f32 x] w (RetFW .f32 (angTurnsV y x) w) := by
  cases h : (finB .f32 x && finB .f32 y)
  · exact implAngle_nan y x hyl hxl h w
  · have hh := h
    rw [Bool.and_eq_true] at hh
    have hx : finW Ieee.single x := of_decide_eq_true hh.1
    have hy : finW Ieee.single y := of_decide_eq_true hh.2
    obtain ⟨vy, cy, fy, ly, ey, _⟩ := widen_exact hy
    obtain ⟨vx, cx, fx, lx, ex, _⟩ := widen_exact hx
    have hHF : (finB .f64 vy && finB .f64 vx) = true := by unfold finB; simp only [FloatKind.format, fy, fx]; rfl
    have sy := sign_widen hy ey
    have sx := sign_widen hx ex
    have hny : (FloatKind.f32.format.order y 0 == some .lt) = negB vy := by unfold negB; rw [sy]
    have hnx : (FloatKind.f32.format.order x 0 == some .lt) = negB vx := by unfold negB; rw [sx]
    have hV : angTurnsV y x = fcv .f64 .f32 (angleV vy vx) := by unfold angTurnsV; rw [ey, ex]
    have zy : zeroB vy = (FloatKind.f32.format.order y 0 == some .eq) := by unfold zeroB; rw [sy]
    have zx : zeroB vx = (FloatKind.f32.format.order x 0 == some .eq) := by unfold zeroB; rw [sx]
    cases h1 : (FloatKind.f32.format.order x 0 == some .eq)
    · have hHZ : (zeroB vx && zeroB vy) = false := by rw [zx, h1]; rfl
      cases ho : overB vy vx
      · exact implAngle_00 y x vy vx hyl hxl h cy cx ly lx hHF hHZ hny hnx hV ho h1 w
      · exact implAngle_10 y x vy vx hyl hxl h cy cx ly lx hHF hHZ hny hnx hV ho h1 w
    · cases h2 : (FloatKind.f32.format.order y 0 == some .eq)
      · have hHZ : (zeroB vx && zeroB vy) = false := by rw [zx, zy, h1, h2]; rfl
        cases ho : overB vy vx
        · exact implAngle_01 y x vy vx hyl hxl h cy cx ly lx hHF hHZ hny hnx hV ho h1 h2 w
        · exact implAngle_11 y x vy vx hyl hxl h cy cx ly lx hHF hHZ hny hnx hV ho h1 h2 w
      · exact implAngle_zero y x hyl hxl h h1 h2 w

theorem angleV_nz (y x : Nat) : angleV (nz .f64 y) (nz .f64 x) = angleV y x := by
  rcases nz_cases .f64 y with ⟨h, _⟩ | ⟨_, e⟩
  · have hf : finB .f64 y = false := by
      unfold finB; refine decide_eq_false fun hh => ?_
      have := (nanB_iff .f64 y).1 h
      unfold finW at hh; omega
    rw [angle_nan (by rw [fin_nz, hf]; rfl), angle_nan (by rw [hf]; rfl)]
  · rw [e]
    rcases nz_cases .f64 x with ⟨h, _⟩ | ⟨_, e2⟩
    · have hf : finB .f64 x = false := by
        unfold finB; refine decide_eq_false fun hh => ?_
        have := (nanB_iff .f64 x).1 h
        unfold finW at hh; omega
      rw [angle_nan (by rw [fin_nz, hf, Bool.and_false]), angle_nan (by rw [hf, Bool.and_false])]
    · rw [e2]

end Go.Proofs.Ytocclddnaaaohaa
