/- Words of floats: cutting towards zero, the part behind the point, the sine's steps and their bounds. No condition. -/
import Derived.Test.YtocclddnaaaohaaFl
namespace Go.Proofs.Ytocclddnaaaohaa.Fl
open Go Ieee Go.RowKit
section
/-- The place of 1 in least units. -/
def oneE : Nat := 1074
theorem oneE_eq : oneE = 1074 := rfl
/-- A number, cut towards zero. -/
def wholeN (t : Nat) : Nat := unitsR double (rgW double t) / 2 ^ oneE
def wholeI (t : Nat) : Int := if sgW double t then -(wholeN t : Int) else wholeN t
/-- The whole as a word. -/
def wholeF (t : Nat) : Nat := floatOfInt .f64 (wholeI t)

theorem cut_zero (neg : Bool) (n drop : Nat) : Toward.zero.cut neg n drop = n / 2 ^ drop := by
  unfold Toward.cut
  simp only [Nat.shiftLeft_eq, Nat.one_mul, Bool.toNat_false, Nat.add_zero]
  by_cases h : drop ≤ n.log2 + 2
  · rw [Nat.min_eq_left h]
  · rw [Nat.min_eq_right (by omega)]
    have hn : n < 2 ^ (n.log2 + 1) := Nat.lt_log2_self
    have h2 : 2 ^ (n.log2 + 1) ≤ 2 ^ (n.log2 + 2) := Nat.pow_le_pow_right (by omega) (by omega)
    have h3 : 2 ^ (n.log2 + 1) ≤ 2 ^ drop := Nat.pow_le_pow_right (by omega) (by omega)
    rw [Nat.div_eq_of_lt (by omega), Nat.div_eq_of_lt (by omega)]

theorem integral_fin {t : Nat} (h : finW double t) : (double.read t).integral .zero = .number (sgW double t) (wholeN t) 0 := by
  rw [read_fin double h]
  simp only [Datum.integral, cut_zero]
  congr 1
  unfold wholeN unitsR
  generalize mgR double (rgW double t) = m
  generalize exR double (rgW double t) = x
  rw [le64, Nat.shiftLeft_eq]
  obtain ⟨D, hD⟩ : ∃ D : Nat, D = oneE := ⟨_, rfl⟩
  have hD2 : D = 1074 := hD
  have e1 : ((-1074 : Int) + (x : Int)).toNat = x - D := by omega
  have e2 : (-((-1074 : Int) + (x : Int))).toNat = D - x := by omega
  rw [e1, e2, ← hD]
  by_cases c : x ≤ D
  · rw [show x - D = 0 by omega, Nat.pow_zero, Nat.mul_one]
    obtain ⟨d, rfl⟩ : ∃ d, D = x + d := ⟨D - x, by omega⟩
    rw [show x + d - x = d by omega, Nat.pow_add, Nat.mul_comm m, Nat.mul_div_mul_left _ _ (Nat.two_pow_pos x)]
  · rw [show D - x = 0 by omega, Nat.pow_zero, Nat.div_one]
    obtain ⟨d, rfl⟩ : ∃ d, x = D + d := ⟨x - D, by omega⟩
    rw [show D + d - D = d by omega, Nat.pow_add, Nat.mul_comm (2 ^ D), ← Nat.mul_assoc, Nat.mul_div_cancel _ (Nat.two_pow_pos D)]

theorem toInt_fin {t : Nat} (h : finW double t) : (FloatKind.f64.decode t).toInt .zero = some (wholeI t) := by
  have e : (FloatKind.f64.decode t).integral .zero = .number (sgW double t) (wholeN t) 0 := integral_fin h
  unfold Datum.toInt
  rw [e]
  simp only [signed, wholeI, Nat.shiftLeft_zero]

theorem wholeN_le {t K : Nat} (h : bdW double t (K + oneE)) : wholeN t ≤ 2 ^ K := by
  unfold wholeN
  have h2 := h.2
  rw [Nat.pow_add] at h2
  have := Nat.div_le_div_right (c := 2 ^ oneE) h2
  rwa [Nat.mul_div_cancel _ (Nat.two_pow_pos _)] at this
/-- What is cut off is less than 1. -/
theorem frac_lt (t : Nat) : unitsR double (rgW double t) - wholeN t * 2 ^ oneE < 2 ^ oneE := by
  unfold wholeN
  have h1 := Nat.div_add_mod (unitsR double (rgW double t)) (2 ^ oneE)
  have h2 := Nat.mod_lt (unitsR double (rgW double t)) (Nat.two_pow_pos oneE)
  rw [Nat.mul_comm] at h1
  omega
theorem whole_le_units (t : Nat) : wholeN t * 2 ^ oneE ≤ unitsR double (rgW double t) := Nat.div_mul_le_self _ _

/-- A whole number below 2^53 has its word. -/
theorem ofInt_word (n : Int) (h : n.natAbs < 2 ^ 53) : ∃ r, floatOfInt .f64 n = double.word (decide (n < 0)) r ∧ r < double.infRung ∧ unitsR double r = n.natAbs * 2 ^ oneE := by
  have hu := units_rung0 double (mag := n.natAbs) (place := 0) h (by decide)
  have e : ((0 : Int) - double.leastPlace).toNat = oneE := by decide
  rw [e] at hu
  have hlt : rung0 double n.natAbs 0 < double.infRung := by
    refine Nat.lt_of_not_le fun hge => ?_
    have hle := rung_le_of_le double n.natAbs 0 double.leastPlace (rungPow double (53 + oneE)) (Nat.le_of_lt (rungPow_lt double (by decide))) (by decide) (Int.le_refl _) (by
      rw [e, units_rungPow double (by decide), Nat.pow_add]
      simp only [Int.sub_self, Int.toNat_zero, Nat.pow_zero, Nat.mul_one]
      exact Nat.mul_le_mul_right _ (Nat.le_of_lt h))
    have h2 : rungPow double (53 + oneE) < double.infRung := rungPow_lt double (by decide)
    unfold rung at hle; omega
  refine ⟨rung0 double n.natAbs 0, ?_, hlt, hu⟩
  show double.nearest _ _ _ = _
  rw [nearest_eq]; unfold rung; congr 1; omega

/-- The cut number's word; a zero made +0: the whole's word. -/
theorem trunc_cases {t : Nat} (h : bdW double t (52 + oneE)) : ∃ W, FloatKind.f64.encode ((FloatKind.f64.decode t).integral .zero) = W ∧ (((FloatKind.f64.format.order W 0 == some .eq) = true ∧ wholeF t = 0) ∨ ((FloatKind.f64.format.order W 0 == some .eq) = false ∧ wholeF t = W)) := by
  have e : (FloatKind.f64.decode t).integral .zero = .number (sgW double t) (wholeN t) 0 := integral_fin h.1
  have hle := wholeN_le h
  have habs : (wholeI t).natAbs = wholeN t := by unfold wholeI; split <;> omega
  rw [e]
  refine ⟨_, rfl, ?_⟩
  obtain ⟨r, h1, h2, h3⟩ := ofInt_word (wholeI t) (by rw [habs]; omega)
  rw [habs] at h3
  have hn : FloatKind.f64.encode (.number (sgW double t) (wholeN t) 0) = double.word (sgW double t) (rung double (wholeN t) 0) := nearest_eq ..
  rw [hn]
  have hr : rung double (wholeN t) 0 = r := by
    have hw : floatOfInt .f64 (wholeI t) = double.word (decide (wholeI t < 0)) (rung double (wholeI t).natAbs 0) := nearest_eq ..
    rw [habs] at hw
    have a : rgW double (floatOfInt .f64 (wholeI t)) = r := by rw [h1]; exact rgW_word double _ (Nat.lt_trans h2 double.infRung_lt)
    have b : rgW double (floatOfInt .f64 (wholeI t)) = rung double (wholeN t) 0 := by rw [hw]; exact rgW_word double _ (rung_lt_sw _ _ _)
    omega
  rw [hr]
  have hs := Nat.lt_trans h2 double.infRung_lt
  have hf : finW double (double.word (sgW double t) r) := by unfold finW; rw [rgW_word double _ hs]; exact h2
  have ho : FloatKind.f64.format.order (double.word (sgW double t) r) 0 = some (compare (valW double (double.word (sgW double t) r)) (valW double 0)) := order_fin double hf (finW_zero .f64)
  have hv0 : valW double 0 = 0 := by decide +kernel
  have hva := valW_abs double (double.word (sgW double t) r)
  rw [rgW_word double _ hs, h3] at hva
  rw [ho, hv0]
  by_cases hc : wholeN t = 0
  · left
    have hz : valW double (double.word (sgW double t) r) = 0 := by rw [hc] at hva; omega
    refine ⟨by rw [hz]; rfl, ?_⟩
    unfold wholeF wholeI; rw [hc]
    have : floatOfInt .f64 0 = 0 := by decide +kernel
    split <;> exact this
  · right
    have hp := Nat.two_pow_pos oneE
    have hpos : 0 < wholeN t * 2 ^ oneE := Nat.mul_pos (by omega) hp
    have hz : valW double (double.word (sgW double t) r) ≠ 0 := by omega
    refine ⟨?_, ?_⟩
    · simp only [compare, compareOfLessAndEq, hz, if_false]
      split <;> rfl
    · unfold wholeF; rw [h1]
      congr 1
      unfold wholeI
      cases sgW double t
      · simp only [Bool.false_eq_true, if_false]; simp
      · simp only [if_true]; simp; omega
end
section
theorem valW_word (f : Format) (s : Bool) {r : Nat} (h : r < f.signWeight) : valW f (f.word s r) = if s then -(unitsR f r : Int) else unitsR f r := by
  unfold valW; rw [rgW_word f s h, sgW_word f s h]
theorem geq_dec {a b : Int} {o : Option Ordering} (h : o = some (compare a b)) : (o == some .gt || o == some .eq) = decide (b ≤ a) := by
  rw [h]; simp only [compare, compareOfLessAndEq]
  by_cases h1 : a < b
  · simp [h1]
  · by_cases h2 : a = b
    · subst h2; simp
    · simp [h1, h2]; omega
theorem leq_dec {a b : Int} {o : Option Ordering} (h : o = some (compare a b)) : (o == some .lt || o == some .eq) = decide (a ≤ b) := by
  rw [h]; simp only [compare, compareOfLessAndEq]
  by_cases h1 : a < b
  · simp [h1]; omega
  · by_cases h2 : a = b
    · subst h2; simp
    · simp [h1, h2]; omega
theorem lt_dec {a b : Int} {o : Option Ordering} (h : o = some (compare a b)) : (o == some .lt) = decide (a < b) := by
  rw [h]; simp only [compare, compareOfLessAndEq]
  by_cases h1 : a < b
  · simp [h1]
  · by_cases h2 : a = b
    · subst h2; simp
    · simp [h1, h2]
theorem gt_dec {a b : Int} {o : Option Ordering} (h : o = some (compare a b)) : (o == some .gt) = decide (b < a) := by
  rw [h]; simp only [compare, compareOfLessAndEq]
  by_cases h1 : a < b
  · simp [h1]; omega
  · by_cases h2 : a = b
    · subst h2; simp
    · simp [h1, h2]; omega
theorem order64 {x y : Nat} (hx : finW double x) (hy : finW double y) : FloatKind.f64.format.order x y = some (compare (valW double x) (valW double y)) := order_fin double hx hy

/-- 2^52, its opposite, 1, 1/2, 1/4 as words. -/
theorem v52 : valW double 4841369599423283200 = ((2 ^ (52 + oneE) : Nat) : Int) := by decide +kernel
theorem v52n : valW double 14064741636278059008 = -((2 ^ (52 + oneE) : Nat) : Int) := by decide +kernel
theorem f52 : finW double 4841369599423283200 := by decide
theorem f52n : finW double 14064741636278059008 := by decide
theorem vone : valW double 4607182418800017408 = ((2 ^ oneE : Nat) : Int) := by decide +kernel
theorem fone : finW double 4607182418800017408 := by decide
theorem vhalf : valW double 4602678819172646912 = ((2 ^ (oneE - 1) : Nat) : Int) := by decide +kernel
theorem fhalf : finW double 4602678819172646912 := by decide
theorem vquart : valW double 4598175219545276416 = ((2 ^ (oneE - 2) : Nat) : Int) := by decide +kernel
theorem fquart : finW double 4598175219545276416 := by decide
theorem vzero : valW double 0 = 0 := by decide +kernel
theorem fzero : finW double 0 := by decide

/-- Is its magnitude at least 2^52? -/
def bigB (x : Nat) : Bool := decide (2 ^ (52 + oneE) ≤ unitsR double (rgW double x))
theorem big_geq {x : Nat} (h : finW double x) : (FloatKind.f64.format.order x 4841369599423283200 == some .gt || FloatKind.f64.format.order x 4841369599423283200 == some .eq) = decide (((2 ^ (52 + oneE) : Nat) : Int) ≤ valW double x) := by
  rw [geq_dec (order64 h f52), v52]
theorem big_leq {x : Nat} (h : finW double x) : (FloatKind.f64.format.order x 14064741636278059008 == some .lt || FloatKind.f64.format.order x 14064741636278059008 == some .eq) = decide (valW double x ≤ -((2 ^ (52 + oneE) : Nat) : Int)) := by
  rw [leq_dec (order64 h f52n), v52n]
theorem big_or {x : Nat} : bigB x = (decide (((2 ^ (52 + oneE) : Nat) : Int) ≤ valW double x) || decide (valW double x ≤ -((2 ^ (52 + oneE) : Nat) : Int))) := by
  have hp := Nat.two_pow_pos (52 + oneE)
  unfold bigB valW
  generalize 2 ^ (52 + oneE) = T at *
  generalize unitsR double (rgW double x) = u
  rw [Bool.eq_iff_iff]
  cases sgW double x
  · simp; omega
  · simp; omega
theorem rgW_abs (x : Nat) : rgW double (x % 2 ^ 63) = rgW double x := by rw [rgW_double, rgW_double, Nat.mod_mod]
theorem sgW_abs (x : Nat) : sgW double (x % 2 ^ 63) = false := by
  have hs : double.signWeight = 2 ^ 63 := rfl
  unfold sgW; rw [hs, Nat.div_eq_of_lt (Nat.mod_lt _ (by decide))]; rfl
theorem fin_abs {x : Nat} (h : finW double x) : finW double (x % 2 ^ 63) := by unfold finW; rw [rgW_abs]; exact h
theorem val_abs (x : Nat) : valW double (x % 2 ^ 63) = (unitsR double (rgW double x) : Int) := by unfold valW; rw [sgW_abs, rgW_abs]; rfl
theorem big_abs {x : Nat} (h : finW double x) : (FloatKind.f64.format.order (x % 2 ^ 63) 4841369599423283200 == some .gt || FloatKind.f64.format.order (x % 2 ^ 63) 4841369599423283200 == some .eq) = bigB x := by
  rw [big_geq (fin_abs h), val_abs]; unfold bigB
  rw [decide_eq_decide]; exact Int.ofNat_le
theorem bd_of_small {x : Nat} (h : finW double x) (hb : bigB x = false) : bdW double x (52 + oneE) := by
  refine ⟨h, ?_⟩
  have := of_decide_eq_false hb
  omega
theorem small_of_bd {x K : Nat} (h : bdW double x K) (hK : K < 52 + oneE) : bigB x = false := by
  have h2 := h.2
  have h3 : 2 ^ K < 2 ^ (52 + oneE) := (Nat.pow_lt_pow_iff_right (by omega)).2 hK
  unfold bigB; exact decide_eq_false (by omega)

/-- A sum whose exact value lies between 0 and a word's: so does the rounded one. -/
theorem sub_between {x q R : Nat} (hx : finW double x) (hq : finW double q) (hR : R < double.infRung) (h0 : 0 ≤ valW double x - valW double q) (h1 : valW double x - valW double q ≤ (unitsR double R : Int)) :
    ∃ y, double.sub x q = some y ∧ finW double y ∧ 0 ≤ valW double y ∧ valW double y ≤ (unitsR double R : Int) := by
  refine ⟨_, sub_fin double (by decide) hx hq, ?_⟩
  have hle : rung double (valW double x - valW double q).natAbs double.leastPlace ≤ R := rung_le_of_le double _ _ double.leastPlace R (Nat.le_of_lt hR) (Int.le_refl _) (Int.le_refl _) (by
    simp only [Int.sub_self, Int.toNat_zero, Nat.pow_zero, Nat.mul_one]; omega)
  have hs := rung_lt_sw double (valW double x - valW double q).natAbs double.leastPlace
  refine ⟨by unfold finW; rw [rgW_word _ _ hs]; omega, ?_⟩
  rw [valW_word double _ hs]
  have hu : unitsR double (rung double (valW double x - valW double q).natAbs double.leastPlace) ≤ unitsR double R := by
    have := units_lt_iff double (r := R) (s := rung double (valW double x - valW double q).natAbs double.leastPlace) (Nat.le_of_lt hR) (by omega)
    omega
  by_cases hz : valW double x - valW double q = 0
  · have h00 : rung double (valW double x - valW double q).natAbs double.leastPlace = 0 := by rw [hz]; unfold rung; rw [show (0 : Int).natAbs = 0 from rfl, rung0_zero]; exact Nat.zero_min _
    rw [h00, unitsR_zero]
    split <;> simp
  · have hneg : ¬ valW double x - valW double q < 0 := by omega
    simp only [hz, hneg, if_false, decide_false, Bool.false_eq_true]
    omega
theorem add_between {x q R : Nat} (hx : finW double x) (hq : finW double q) (hR : R < double.infRung) (h0 : 0 ≤ valW double x + valW double q) (h1 : valW double x + valW double q ≤ (unitsR double R : Int)) :
    ∃ y, double.add x q = some y ∧ finW double y ∧ 0 ≤ valW double y ∧ valW double y ≤ (unitsR double R : Int) := by
  have e : double.add x q = double.sub x (negW double q) := by
    rw [sub_eq_add double (by decide)]
    unfold Format.add
    rw [read_negW double (by decide), read_negW double (by decide)]
    congr 2
    cases double.read q <;> simp [Datum.opposite]
  rw [e]
  have hv := valW_negW double q
  exact sub_between hx (finW_negW double hq) hR (by omega) (by omega)

/-- The part behind the point, from 0 to 1. -/
def fracV (t : Nat) : Nat := if FloatKind.f64.format.order (fop .sub .f64 t (wholeF t)) 0 == some .lt then fop .add .f64 (fop .sub .f64 t (wholeF t)) 4607182418800017408 else fop .sub .f64 t (wholeF t)

theorem val_whole {t : Nat} (h : bdW double t (52 + oneE)) : finW double (wholeF t) ∧ valW double (wholeF t) = wholeI t * (2 ^ oneE : Nat) := by
  have hle := wholeN_le h
  have habs : (wholeI t).natAbs = wholeN t := by unfold wholeI; split <;> omega
  obtain ⟨r, h1, h2, h3⟩ := ofInt_word (wholeI t) (by rw [habs]; omega)
  have hs := Nat.lt_trans h2 double.infRung_lt
  unfold wholeF
  rw [h1]
  refine ⟨by unfold finW; rw [rgW_word _ _ hs]; exact h2, ?_⟩
  unfold valW
  rw [rgW_word _ _ hs, sgW_word _ _ hs, h3]
  by_cases hn : wholeI t < 0
  · simp only [hn, decide_true, if_true]
    have : ((wholeI t).natAbs : Int) = - wholeI t := by omega
    rw [Int.natCast_mul, this, Int.neg_mul, Int.neg_neg]
  · simp only [hn, decide_false, Bool.false_eq_true, if_false]
    have : ((wholeI t).natAbs : Int) = wholeI t := by omega
    rw [Int.natCast_mul, this]
theorem sub_whole {t : Nat} (h : bdW double t (52 + oneE)) : (valW double t - valW double (wholeF t)).natAbs < 2 ^ oneE := by
  obtain ⟨_, h2⟩ := val_whole h
  have h3 := frac_lt t
  have h4 := whole_le_units t
  rw [h2]
  unfold valW wholeI
  have e : (wholeN t : Int) * ((2 ^ oneE : Nat) : Int) = ((wholeN t * 2 ^ oneE : Nat) : Int) := by rw [Int.natCast_mul]
  cases sgW double t
  · simp only [Bool.false_eq_true, if_false]; rw [e]; omega
  · simp only [if_true]; rw [Int.neg_mul, e]; omega
theorem units_pow {K : Nat} (h1 : 52 ≤ K) (h2 : K ≤ 2096) : rungPow double K < double.infRung ∧ unitsR double (rungPow double K) = 2 ^ K := ⟨rungPow_lt double (ok64 h2), units_rungPow double (fb64 h1)⟩

theorem fop_sub_some {x y r : Nat} (h : double.sub x y = some r) : fop .sub .f64 x y = r := by
  have : floatBits .sub .f64 x y = some r := h
  unfold fop; rw [this]; rfl
theorem fop_add_some {x y r : Nat} (h : double.add x y = some r) : fop .add .f64 x y = r := by
  have : floatBits .add .f64 x y = some r := h
  unfold fop; rw [this]; rfl
theorem frac_unit {t : Nat} (h : bdW double t (52 + oneE)) : finW double (fop .sub .f64 t (wholeF t)) ∧ finW double (fracV t) ∧ 0 ≤ valW double (fracV t) ∧ valW double (fracV t) ≤ ((2 ^ oneE : Nat) : Int) := by
  obtain ⟨hw, _⟩ := val_whole h
  have hd := sub_whole h
  obtain ⟨p1, p2⟩ := units_pow (K := oneE) (by decide) (by decide)
  by_cases hs : 0 ≤ valW double t - valW double (wholeF t)
  · obtain ⟨y, e, hy, h0, h1⟩ := sub_between h.1 hw p1 hs (by rw [p2]; omega)
    have ef := fop_sub_some e
    rw [p2] at h1
    have hlt : (FloatKind.f64.format.order y 0 == some .lt) = false := by
      rw [lt_dec (order64 hy fzero), vzero]; exact decide_eq_false (by omega)
    unfold fracV; rw [ef, hlt]
    exact ⟨hy, hy, h0, h1⟩
  · have hneg : valW double t - valW double (wholeF t) < 0 := by omega
    obtain ⟨y, e⟩ : ∃ y, double.sub t (wholeF t) = some y := ⟨_, sub_fin double (by decide) h.1 hw⟩
    have e2 := sub_fin double (by decide) h.1 hw
    rw [e2] at e
    have hy := Option.some.inj e
    have hz : ¬ valW double t - valW double (wholeF t) = 0 := by omega
    simp only [hz, if_false, hneg, decide_true] at hy
    have hle : rung double (valW double t - valW double (wholeF t)).natAbs double.leastPlace ≤ rungPow double oneE := rung_le_of_le double _ _ double.leastPlace _ (Nat.le_of_lt p1) (Int.le_refl _) (Int.le_refl _) (by
      rw [p2]; simp only [Int.sub_self, Int.toNat_zero, Nat.pow_zero, Nat.mul_one]; omega)
    have hsw := rung_lt_sw double (valW double t - valW double (wholeF t)).natAbs double.leastPlace
    have hyf : finW double y := by rw [← hy]; unfold finW; rw [rgW_word _ _ hsw]; omega
    have hu : unitsR double (rung double (valW double t - valW double (wholeF t)).natAbs double.leastPlace) ≤ 2 ^ oneE := by
      have := units_lt_iff double (r := rungPow double oneE) (s := rung double (valW double t - valW double (wholeF t)).natAbs double.leastPlace) (Nat.le_of_lt p1) (by omega)
      omega
    have hyv : valW double y = -(unitsR double (rung double (valW double t - valW double (wholeF t)).natAbs double.leastPlace) : Int) := by
      rw [← hy, valW_word double _ hsw]; rfl
    have ef : fop .sub .f64 t (wholeF t) = y := fop_sub_some (by rw [e2, e])
    refine ⟨by rw [ef]; exact hyf, ?_⟩
    unfold fracV; rw [ef]
    by_cases hlt : (FloatKind.f64.format.order y 0 == some .lt) = true
    · rw [if_pos hlt]
      have hvlt : valW double y < 0 := by
        rw [lt_dec (order64 hyf fzero), vzero] at hlt; exact of_decide_eq_true hlt
      obtain ⟨z, ez, hz1, hz2, hz3⟩ := add_between hyf fone p1 (by rw [vone]; omega) (by rw [vone, p2]; omega)
      rw [fop_add_some ez]
      rw [p2] at hz3
      exact ⟨hz1, hz2, hz3⟩
    · rw [if_neg hlt]
      have hvge : ¬ valW double y < 0 := by
        intro hh; exact hlt (by rw [lt_dec (order64 hyf fzero), vzero]; exact decide_eq_true hh)
      exact ⟨hyf, by omega, by omega⟩
end
section
def pstep (u : Nat) (k : Int) (p : Nat) : Nat := fop .sub .f64 4607182418800017408 (fop .quo .f64 (fop .mul .f64 u p) (floatOfInt .f64 (2 * k * (2 * k + 1))))
/-- The polynomial after j steps. -/
def polyV (u : Nat) : Nat → Nat
  | 0 => 4607182418800017408
  | j + 1 => pstep u (8 - (j : Int)) (polyV u j)
def belowB (f : Nat) : Bool := FloatKind.f64.format.order f 4602678819172646912 == some .gt || FloatKind.f64.format.order f 4602678819172646912 == some .eq
def fold1 (f : Nat) : Nat := if belowB f then fop .sub .f64 f 4602678819172646912 else f
def fold2 (f : Nat) : Nat := if FloatKind.f64.format.order f 4598175219545276416 == some .gt then fop .sub .f64 4602678819172646912 f else f
def sineZ (f : Nat) : Nat := fop .mul .f64 (fold2 (fold1 f)) 4618760256179416344
def sineR (f : Nat) : Nat := fop .mul .f64 (sineZ f) (polyV (fop .mul .f64 (sineZ f) (sineZ f)) 8)
/-- The sine of some turns behind the point. -/
def sineF (f : Nat) : Nat := if belowB f then nz .f64 (Op.negFloat .f64 (sineR f)) else sineR f
def sineV (t : Nat) : Nat := sineF (fracV t)

theorem polyV_nz (u : Nat) : ∀ j, polyV (nz .f64 u) j = polyV u j
  | 0 => rfl
  | j + 1 => by unfold polyV pstep; rw [polyV_nz u j, fop_nz_left]
theorem nz_polyV (u : Nat) : ∀ j, nz .f64 (polyV u j) = polyV u j
  | 0 => by unfold polyV; exact nz_num (nanB_fin fone)
  | j + 1 => by unfold polyV pstep; exact nz_fop ..
theorem nz_fold1 {f : Nat} (h : nz .f64 f = f) : nz .f64 (fold1 f) = fold1 f := by
  unfold fold1; split
  · exact nz_fop ..
  · exact h
theorem nz_fold2 {f : Nat} (h : nz .f64 f = f) : nz .f64 (fold2 f) = fold2 f := by
  unfold fold2; split
  · exact nz_fop ..
  · exact h

/-- The operations on bounded numbers, as words. -/
theorem b_add {x y K L : Nat} (hx : bdW double x K) (hy : bdW double y L) (h1 : 52 ≤ K) (h2 : max K L + 1 ≤ 2096) : bdW double (fop .add .f64 x y) (max K L + 1) := by
  obtain ⟨r, e, h⟩ := bd_add hx hy h1 h2
  rw [fop_add_some e]; exact h
theorem b_sub {x y K L : Nat} (hx : bdW double x K) (hy : bdW double y L) (h1 : 52 ≤ K) (h2 : max K L + 1 ≤ 2096) : bdW double (fop .sub .f64 x y) (max K L + 1) := by
  obtain ⟨r, e, h⟩ := bd_sub hx hy h1 h2
  rw [fop_sub_some e]; exact h
theorem b_mul {x y K L : Nat} (hx : bdW double x K) (hy : bdW double y L) (h1 : 1126 ≤ K + L) (h2 : K + L ≤ 3170) : bdW double (fop .mul .f64 x y) (K + L - 1074) := by
  obtain ⟨r, e, h⟩ := bd_mul hx hy h1 h2
  have : floatBits .mul .f64 x y = some r := e
  unfold fop; rw [this]; exact h
theorem b_div {x y K J : Nat} (hx : bdW double x K) (hy : finW double y) (hJ : 2 ^ J ≤ unitsR double (rgW double y)) (hJK : J ≤ K) (h2 : K - J + 1075 ≤ 2096) : bdW double (fop .quo .f64 x y) (K - J + 1075) := by
  obtain ⟨r, e, h⟩ := bd_div hx hy hJ hJK h2
  have : floatBits .quo .f64 x y = some r := e
  unfold fop; rw [this]; exact h
theorem b_word {w K : Nat} (h : finW double w) (hu : unitsR double (rgW double w) ≤ 2 ^ K) : bdW double w K := ⟨h, hu⟩
theorem b_one : bdW double 4607182418800017408 1074 := b_word (by decide) (by decide +kernel)
theorem b_half : bdW double 4602678819172646912 1074 := b_word (by decide) (by decide +kernel)
theorem b_quart : bdW double 4598175219545276416 1074 := b_word (by decide) (by decide +kernel)
theorem b_full : bdW double 4618760256179416344 1077 := b_word (by decide) (by decide +kernel)
theorem b_zero : bdW double 0 1074 := b_word (by decide) (by decide +kernel)

theorem xor63 (b : Nat) : rgW double (Op.negFloat .f64 b) = rgW double b := by
  show (b ^^^ 2 ^ 63) % 2 ^ 63 = b % 2 ^ 63
  rw [Nat.xor_mod_two_pow, Nat.mod_self, Nat.xor_zero]
theorem b_neg {x K : Nat} (h : bdW double x K) : bdW double (Op.negFloat .f64 x) K := by
  refine ⟨?_, ?_⟩
  · unfold finW; rw [xor63]; exact h.1
  · rw [xor63]; exact h.2
theorem nan_neg (b : Nat) : nanB .f64 (Op.negFloat .f64 b) = nanB .f64 b := by
  have h1 := nanB_iff .f64 (Op.negFloat .f64 b)
  have h2 := nanB_iff .f64 b
  have e : rgW FloatKind.f64.format (Op.negFloat .f64 b) = rgW FloatKind.f64.format b := xor63 b
  rw [e] at h1
  rw [Bool.eq_iff_iff, h1, h2]
theorem nz_neg (b : Nat) : nz .f64 (Op.negFloat .f64 (nz .f64 b)) = nz .f64 (Op.negFloat .f64 b) := by
  rcases nz_cases .f64 b with ⟨h, e⟩ | ⟨_, e⟩
  · rw [e, nz_nan (show nanB .f64 (Op.negFloat .f64 b) = true by rw [nan_neg]; exact h), nz_nan (by rw [nan_neg]; exact nanB_cnan .f64)]
  · rw [e]

theorem poly_bd {u : Nat} (hu : bdW double u 1086) : ∀ j, j ≤ 8 → bdW double (polyV u j) (1074 + 12 * j)
  | 0, _ => by unfold polyV; exact b_one
  | j + 1, hj => by
    have ih := poly_bd hu j (by omega)
    unfold polyV pstep
    have hm := b_mul hu ih (by omega) (by omega)
    obtain ⟨k, hk⟩ : ∃ k : Nat, k = 8 - j := ⟨_, rfl⟩
    have hk1 : 1 ≤ k := by omega
    have hk8 : k ≤ 8 := by omega
    have ek : (8 : Int) - (j : Int) = (k : Int) := by omega
    rw [ek]
    have hn : (2 * (k : Int) * (2 * (k : Int) + 1)).natAbs = 2 * k * (2 * k + 1) := by
      have : (2 * (k : Int) * (2 * (k : Int) + 1)) = ((2 * k * (2 * k + 1) : Nat) : Int) := by simp
      rw [this]; rfl
    have hnb : 6 ≤ 2 * k * (2 * k + 1) ∧ 2 * k * (2 * k + 1) ≤ 272 := by
      have a : 2 ≤ 2 * k := by omega
      have b : 2 * k ≤ 16 := by omega
      have l : 2 * 3 ≤ 2 * k * (2 * k + 1) := Nat.mul_le_mul a (by omega)
      have h : 2 * k * (2 * k + 1) ≤ 16 * 17 := Nat.mul_le_mul b (by omega)
      omega
    obtain ⟨r, e, h2, h3⟩ := ofInt_word (2 * (k : Int) * (2 * (k : Int) + 1)) (by rw [hn]; omega)
    rw [hn] at h3
    have hs := Nat.lt_trans h2 double.infRung_lt
    have hf : finW double (floatOfInt .f64 (2 * (k : Int) * (2 * (k : Int) + 1))) := by rw [e]; unfold finW; rw [rgW_word _ _ hs]; exact h2
    have hJ : 2 ^ (2 + oneE) ≤ unitsR double (rgW double (floatOfInt .f64 (2 * (k : Int) * (2 * (k : Int) + 1)))) := by
      rw [e, rgW_word _ _ hs, h3, Nat.pow_add]
      exact Nat.mul_le_mul_right _ (by omega)
    have ho : 2 + oneE = 1076 := rfl
    rw [ho] at hJ
    have hd := b_div hm hf hJ (by omega) (by omega)
    have hsb := b_sub b_one hd (by omega) (by omega)
    exact bdW_mono hsb (by omega)

/-- A number from 0 to 1: its sine is small. -/
theorem sineF_bd {f : Nat} (hf : bdW double f 1074) : bdW double (sineF f) 1176 := by
  have h1 : bdW double (fold1 f) 1075 := by
    unfold fold1; split
    · exact bdW_mono (b_sub hf b_half (by omega) (by omega)) (by omega)
    · exact bdW_mono hf (by omega)
  have h2 : bdW double (fold2 (fold1 f)) 1076 := by
    unfold fold2; split
    · exact bdW_mono (b_sub b_half h1 (by omega) (by omega)) (by omega)
    · exact bdW_mono h1 (by omega)
  have hz : bdW double (sineZ f) 1079 := by
    unfold sineZ; exact bdW_mono (b_mul h2 b_full (by omega) (by omega)) (by omega)
  have hu : bdW double (fop .mul .f64 (sineZ f) (sineZ f)) 1086 := bdW_mono (b_mul hz hz (by omega) (by omega)) (by omega)
  have hp := poly_bd hu 8 (by omega)
  have hr : bdW double (sineR f) 1176 := by
    unfold sineR; exact bdW_mono (b_mul hz hp (by omega) (by omega)) (by omega)
  unfold sineF; split
  · have hn := b_neg hr
    rw [nz_num (nanB_fin (k := .f64) hn.1)]; exact hn
  · exact hr
theorem bd_of_val {x K : Nat} (h : finW double x) (h0 : 0 ≤ valW double x) (h1 : valW double x ≤ ((2 ^ K : Nat) : Int)) : bdW double x K := by
  refine ⟨h, ?_⟩
  have := valW_abs double x
  omega
theorem frac_bd {t : Nat} (h : bdW double t (52 + oneE)) : bdW double (fracV t) 1074 := by
  obtain ⟨_, h1, h2, h3⟩ := frac_unit h
  exact bd_of_val (K := oneE) h1 h2 h3
theorem sine_narrows {t v : Nat} (h : bdW double t (52 + oneE)) (hv : nz .f64 v = sineV t) : narrows .f64 .f32 v := by
  have hb := sineF_bd (frac_bd h)
  have hn : nanB .f64 v = false := by rw [← nan_nz, hv]; exact nanB_fin (k := .f64) hb.1
  rw [nz_num hn] at hv
  rw [hv]; exact narrows_bd hb (by omega)
theorem sine_steps {f z u v r : Nat} (hz : Hid (nz .f64 z = sineZ f)) (hu : Hid (nz .f64 u = fop .mul .f64 z z)) (hv : Hid (nz .f64 v = polyV u 8)) (hr : Hid (nz .f64 r = fop .mul .f64 z v)) : Hid (nz .f64 r = sineR f) := by
  unfold Hid sineR
  rw [hr.out, ← fop_nz_left .mul .f64 z v, ← fop_nz_right .mul .f64 _ v, hz.out, hv.out, ← polyV_nz u, hu.out, ← fop_nz_left .mul .f64 z z, ← fop_nz_right .mul .f64 _ z, hz.out]

/-- QUARTERS. -/
def qIter (f : Nat) : Nat → Nat
  | 0 => f
  | j + 1 => fop .sub .f64 (qIter f j) 4598175219545276416
def geqQ (f : Nat) : Bool := FloatKind.f64.format.order f 4598175219545276416 == some .gt || FloatKind.f64.format.order f 4598175219545276416 == some .eq
def qCount (f : Nat) : Nat := if !geqQ (qIter f 0) then 0 else if !geqQ (qIter f 1) then 1 else if !geqQ (qIter f 2) then 2 else if !geqQ (qIter f 3) then 3 else 4
theorem qCount_of {f j : Nat} (hj : j ≤ 4) (h : ∀ i, i < j → geqQ (qIter f i) = true) (hn : geqQ (qIter f j) = false) : qCount f = j := by
  unfold qCount
  have h0 := h 0; have h1 := h 1; have h2 := h 2; have h3 := h 3
  match j, hj with
  | 0, _ => simp [hn]
  | 1, _ => simp [hn, h0]
  | 2, _ => simp [hn, h0, h1]
  | 3, _ => simp [hn, h0, h1, h2]
  | 4, _ => simp [h0, h1, h2, h3]
/-- At most 4 - j quarters are left. -/
def leftQ (f j : Nat) : Prop := finW double (qIter f j) ∧ 0 ≤ valW double (qIter f j) ∧ valW double (qIter f j) ≤ (((4 - j) * 2 ^ (oneE - 2) : Nat) : Int)
theorem quart_units (m : Nat) (hm : m ≤ 3) : ∃ R, R < double.infRung ∧ unitsR double R = m * 2 ^ (oneE - 2) := by
  match m, hm with
  | 0, _ => exact ⟨0, by decide, by decide +kernel⟩
  | 1, _ => exact ⟨4598175219545276416, by decide, by decide +kernel⟩
  | 2, _ => exact ⟨4602678819172646912, by decide, by decide +kernel⟩
  | 3, _ => exact ⟨4604930618986332160, by decide, by decide +kernel⟩
theorem leftQ_succ {f j : Nat} (hj : j ≤ 4) (h : leftQ f j) (hg : geqQ (qIter f j) = true) : j < 4 ∧ leftQ f (j + 1) := by
  obtain ⟨h1, h2, h3⟩ := h
  unfold geqQ at hg
  rw [geq_dec (order64 h1 fquart), vquart] at hg
  have hg' := of_decide_eq_true hg
  have hp := Nat.two_pow_pos (oneE - 2)
  have hlt : j < 4 := by
    refine Nat.lt_of_not_le fun hge => ?_
    have e : 4 - j = 0 := by omega
    rw [e, Nat.zero_mul] at h3
    omega
  refine ⟨hlt, ?_⟩
  obtain ⟨R, hR, hu⟩ := quart_units (4 - (j + 1)) (by omega)
  have hval : (((4 - j) * 2 ^ (oneE - 2) : Nat) : Int) = (((4 - (j + 1)) * 2 ^ (oneE - 2) : Nat) : Int) + ((2 ^ (oneE - 2) : Nat) : Int) := by
    rw [show 4 - j = 4 - (j + 1) + 1 by omega, Nat.add_mul, Nat.one_mul, Int.natCast_add]
  obtain ⟨y, e, hy, y0, y1⟩ := sub_between h1 fquart hR (by rw [vquart]; omega) (by rw [vquart, hu]; omega)
  unfold leftQ
  have e2 : qIter f (j + 1) = y := fop_sub_some e
  rw [e2]
  rw [hu] at y1
  exact ⟨hy, y0, y1⟩
theorem leftQ_zero {t : Nat} (h : bdW double t (52 + oneE)) : leftQ (fracV t) 0 := by
  obtain ⟨_, h1, h2, h3⟩ := frac_unit h
  refine ⟨h1, h2, ?_⟩
  have e : (4 - 0) * 2 ^ (oneE - 2) = 2 ^ oneE := by
    rw [show oneE = oneE - 2 + 2 from rfl, Nat.pow_add]
    simp only [Nat.add_sub_cancel]
    rw [Nat.mul_comm]
  show valW double (fracV t) ≤ _
  rw [e]; exact h3
theorem leftQ_bd {f j : Nat} (h : leftQ f j) : bdW double (qIter f j) oneE := by
  obtain ⟨h1, h2, h3⟩ := h
  refine bd_of_val h1 h2 (Int.le_trans h3 ?_)
  have e : 4 * 2 ^ (oneE - 2) = 2 ^ oneE := by
    rw [show oneE = oneE - 2 + 2 from rfl, Nat.pow_add]
    simp only [Nat.add_sub_cancel]
    rw [Nat.mul_comm]
  have : (4 - j) * 2 ^ (oneE - 2) ≤ 4 * 2 ^ (oneE - 2) := Nat.mul_le_mul_right _ (by omega)
  omega
end
section
section
variable {P : Program} (w : World) {ops : Array Oper} {rest : List Oper} {o : Oper} {a : Act} {Q : Exit → Act → World → Prop}
/-- THE WALK's LAW where the operation is valid: the very word, the very world. -/
theorem wpList_fopx (hw : Region.wanted o (yielded ops a.tmps) = true) (op : BinOp) (t u : TypeId) (l r : Operand) (hop : o.op = Op.binOp op t l r u) (har : arith op = true) (k : FloatKind) (x y v : Nat) (hl : a.eval l = .float k x) (hr : a.eval r = .float k y)
    (hv : floatBits op k x y = some v) (hK : wpList P ops Q rest (a.put o.dst (.float k v)) w) : wpList P ops Q (o :: rest) a w := by
  refine wpList_step fun K hK' => ?_
  rw [if_pos hw]
  have hrun := run_float_arith (P := P) w op t k x y v hv
  have hgd : eqGuard op t l r (.float k x) (.float k y) = pure () := by
    cases op <;> simp only [arith] at har <;> first | (cases har; done) | rfl
  unfold Oper.wp
  simp [execOp, hop, hl, hr, hgd, hrun, Result.andThen]
  exact hK' _ _ hK
/-- A conversion that is no rounding of a NaN: the very word, the very world. -/
theorem wpList_fcvx (hw : Region.wanted o (yielded ops a.tmps) = true) (src dst : TypeId) (l : Operand) (hop : o.op = Op.convert src dst l) (s k : FloatKind) (b v : Nat) (hl : a.eval l = .float s b) (hs : (P.underlying src).isSome = true) (hd : P.underlying dst = some (.float k)) (hv : floatToFloatBits s b k = some v)
    (hK : wpList P ops Q rest (a.put o.dst (.float k v)) w) : wpList P ops Q (o :: rest) a w := by
  refine wpList_step fun K hK' => ?_
  rw [if_pos hw]
  have hrun := run_convert_float_float (P := P) w src dst s k b v hs hd hv
  unfold Oper.wp
  simp [execOp, hop, hl, hrun, Result.andThen]
  exact hK' _ _ hK
theorem toIntegral_fin {t : Nat} (h : finW double t) (name : String) (way : Toward) :
    (Extern.MathFloor.toIntegral name way #[.float .f64 t]).run P w = .ok (.float .f64 (FloatKind.f64.encode ((FloatKind.f64.decode t).integral way))) w := by
  have hd : FloatKind.f64.decode t = .number (sgW double t) (mgR double (rgW double t)) (double.leastPlace + exR double (rgW double t)) := read_fin double h
  have e : Extern.MathFloor.toIntegral name way #[.float .f64 t] = (match FloatKind.f64.decode t with
    | .nan s t' =>
      if FloatKind.f64.format.quiet t' = t' then (pure (.float .f64 t) : Sem Value) else do
      let kept ← choose (.extern "math.Floor,Ceil,Trunc,RoundToEven.signallingNaN kept" 2)
      pure (.float .f64 (if kept == 1 then t else FloatKind.f64.encode (.nan s (FloatKind.f64.format.quiet t'))))
    | d => pure (.float .f64 (FloatKind.f64.encode (d.integral way)))) := rfl
  rw [e, hd]; rfl
end
theorem run_narrow {P : Program} (w : World) (src dst : TypeId) (b : Nat) (hs : (P.underlying src).isSome = true) (hd : P.underlying dst = some (.float .f32)) (hb : b < 2 ^ 64) :
    ∃ v n, (convert src dst (.float .f64 b)).run P w = .ok (.float .f32 v) (w.drewN n) ∧ (narrows .f64 .f32 b → nz .f32 v = fcv .f64 .f32 b) ∧ v < 2 ^ FloatKind.f32.format.width := by
  by_cases hn : narrows .f64 .f32 b
  · obtain ⟨v, n, h1, h2, h3⟩ := run_fcv (P := P) w src dst .f64 .f32 b (by decide) hs hd hn hb
    exact ⟨v, n, h1, fun _ => h2, h3⟩
  · obtain ⟨u, hs'⟩ := Option.isSome_iff_exists.1 hs
    refine ⟨(w.tape w.drawn (.floatToFloat b)) % 2 ^ 32, 1, ?_, fun h => absurd h hn, Nat.mod_lt _ (by decide)⟩
    have hnn : nanB .f64 b = false := by
      cases h : nanB .f64 b
      · rfl
      · exact absurd (.inl h) hn
    have hcv : floatToFloatBits .f64 b .f32 = none := by
      cases h : floatToFloatBits .f64 b .f32 with
      | none => rfl
      | some r => exact absurd (.inr (by rw [h]; rfl)) hn
    have key : ∀ (d : Datum), FloatKind.f64.decode b = d → (∃ s m e, d = .number s m e ∧ (FloatKind.f32.decode (FloatKind.f32.encode (.number s m e))).isInfinity = true) := by
      intro d hd'
      unfold floatToFloatBits at hcv
      rw [if_neg (by decide), hd'] at hcv
      cases d with
      | nan s t =>
        exfalso
        have : nanB .f64 b = true := by unfold nanB; rw [hd']; rfl
        rw [hnn] at this; cases this
      | infinity s => simp at hcv
      | number s m e =>
        simp only at hcv
        split at hcv
        · rename_i hi; exact ⟨s, m, e, rfl, hi⟩
        · cases hcv
    obtain ⟨s, m, e, hde, hi⟩ := key _ rfl
    cases u <;> simp [convert, run_underlying hs', run_underlying hd, Conv.floatToFloat, hde, hi, choose, Sem.run, Question.forced, Question.cut, World.drewN]
section
variable {P : Program} (w : World) {ops : Array Oper} {rest : List Oper} {o : Oper} {a : Act} {Q : Exit → Act → World → Prop}
/-- 'float32(x)' of a float64, whatever it is: what is asked of x comes behind. -/
theorem wpList_narrow (hw : Region.wanted o (yielded ops a.tmps) = true) (src dst : TypeId) (l : Operand) (hop : o.op = Op.convert src dst l) (b : Nat) (hl : a.eval l = .float .f64 b) (hs : (P.underlying src).isSome = true) (hd : P.underlying dst = some (.float .f32)) (hb : b < 2 ^ 64)
    (hK : ∀ v n, Hid (narrows .f64 .f32 b → nz .f32 v = fcv .f64 .f32 b) → Hid (v < 2 ^ FloatKind.f32.format.width) → wpList P ops Q rest (a.put o.dst (.float .f32 v)) (w.drewN n)) : wpList P ops Q (o :: rest) a w := by
  refine wpList_step fun K hK' => ?_
  rw [if_pos hw]
  obtain ⟨v, n, hrun, h1, h2⟩ := run_narrow (P := P) w src dst b hs hd hb
  unfold Oper.wp
  simp [execOp, hop, hl, hrun, Result.andThen]
  exact hK' _ _ (hK v n h1 h2)
end
@[go_sem] theorem unary_neg_float (k : FloatKind) (b : Nat) : Op.unary .neg (.float k b) = pure (.float k (Op.negFloat k b)) := rfl
theorem widen_exact {x : Nat} (h : finW single x) : ∃ v, floatToFloatBits .f32 x .f64 = some v ∧ finW double v ∧ v < 2 ^ 64 ∧ fcv .f32 .f64 x = v ∧ nanB .f64 v = false := by
  obtain ⟨r, h1, h2, _⟩ := widen_fin h
  have hs := Nat.lt_trans h2 double.infRung_lt
  have hf : finW double (double.word (sgW single x) r) := by unfold finW; rw [rgW_word _ _ hs]; exact h2
  exact ⟨_, h1, hf, double.word_lt _ hs, by unfold fcv; rw [h1]; rfl, nanB_fin (k := .f64) hf⟩
theorem bits_of_sub {x y K L : Nat} (hx : bdW double x K) (hy : bdW double y L) : floatBits .sub .f64 x y = some (fop .sub .f64 x y) := by
  have : floatBits .sub .f64 x y = double.sub x y := rfl
  unfold fop; rw [this, sub_fin double (by decide) hx.1 hy.1]; rfl
theorem bits_of_add {x y K L : Nat} (hx : bdW double x K) (hy : bdW double y L) : floatBits .add .f64 x y = some (fop .add .f64 x y) := by
  have : floatBits .add .f64 x y = double.add x y := rfl
  unfold fop; rw [this, add_fin double hx.1 hy.1]; rfl
theorem bits_self {x : Nat} (h : finW double x) : floatBits .sub .f64 x x = some 0 := sub_self_fin double (by decide) h
theorem zero_ne : (FloatKind.f64.format.order 0 0 != some .eq) = false := by rw [order_zero]; rfl
theorem eq_of_nz {k : FloatKind} {v E : Nat} (h : nz k v = E) (hE : nanB k E = false) : v = E := by
  have hn : nanB k v = false := by rw [← nan_nz, h]; exact hE
  rw [← h, nz_num hn]
theorem wholeI_bound {t : Nat} (h : bdW double t (52 + oneE)) : -4503599627370496 ≤ wholeI t ∧ wholeI t ≤ 4503599627370496 := by
  have := wholeN_le h
  unfold wholeI; split <;> omega
theorem convI {t : Nat} (h : bdW double t (52 + oneE)) : floatToIntVal .f64 t .i64 = some (wholeI t) := by
  unfold floatToIntVal
  rw [toInt_fin h.1]
  have := wholeI_bound h
  have h1 : IntKind.i64.min = -9223372036854775808 := by decide
  have h2 : IntKind.i64.max = 9223372036854775807 := by decide
  simp only [h1, h2]
  rw [if_pos (by omega)]
theorem nanB_frac {t : Nat} (h : bdW double t (52 + oneE)) : nanB .f64 (fracV t) = false := nanB_fin (k := .f64) (frac_unit h).2.1
theorem frac_yes {t : Nat} (h : (FloatKind.f64.format.order (fop .sub .f64 t (wholeF t)) 0 == some .lt) = true) : fracV t = fop .add .f64 (fop .sub .f64 t (wholeF t)) 4607182418800017408 := by unfold fracV; rw [if_pos h]
theorem frac_no {t : Nat} (h : (FloatKind.f64.format.order (fop .sub .f64 t (wholeF t)) 0 == some .lt) = false) : fracV t = fop .sub .f64 t (wholeF t) := by unfold fracV; rw [if_neg (by rw [h]; decide)]
theorem bd_whole {t : Nat} (h : bdW double t (52 + oneE)) : bdW double (wholeF t) 2098 := bd_fin (val_whole h).1
theorem bd_diff {t : Nat} (h : bdW double t (52 + oneE)) : bdW double (fop .sub .f64 t (wholeF t)) 2098 := bd_fin (frac_unit h).1

/-- It hands back a complex number. -/
def RetC (E1 E2 : Nat) (w : World) (e : Ending) (w' : World) : Prop := ∃ a b n, e = .returned (.complex .f32 a b) ∧ Hid (nz .f32 a = E1) ∧ Hid (nz .f32 b = E2) ∧ Hid (a < 2 ^ FloatKind.f32.format.width) ∧ Hid (b < 2 ^ FloatKind.f32.format.width) ∧ w' = w.drewN n

section
variable {P : Program} (w : World) {ops : Array Oper} {rest : List Oper} {o : Oper} {a : Act} {Q : Exit → Act → World → Prop}
theorem run_ff (w : World) (b : Nat) : ∃ v n, (Conv.floatToFloat .f32 b .f64).run P w = .ok (.float .f64 v) (w.drewN n) ∧ nz .f64 v = fcv .f32 .f64 b ∧ v < 2 ^ 64 := by
  cases h : floatToFloatBits .f32 b .f64 with
  | some r =>
    refine ⟨r, 0, run_floatToFloat w h, ?_, ?_⟩
    · unfold fcv; rw [h]; exact nz_num (nanB_cv (by decide) h)
    · unfold floatToFloatBits at h
      rw [if_neg (by decide)] at h
      split at h
      · cases h
      · cases h; exact double.write_lt _
      · split at h
        · cases h
        · cases h; exact double.write_lt _
  | none =>
    have hnan : nanB .f32 b = true := by
      rcases narrows_up b with h' | h'
      · exact h'
      · rw [h] at h'; cases h'
    obtain ⟨sg, t, hd'⟩ := decode_nan hnan
    have hd2 : FloatKind.f32.decode b = .nan sg t := hd'
    obtain ⟨h1, h2, h3⟩ := drawn_nan .f64 (.nanConv .f64 b) (w.tape w.drawn (.nanConv .f64 b)) (.inr ⟨b, rfl⟩)
    refine ⟨_, 1, ?_, ?_, h2⟩
    · simp [Conv.floatToFloat, hd2, choose, Sem.run, h3, World.drewN]
    · unfold fcv; rw [h]; exact nz_nan h1
/-- 'complex128(z)' of a complex64. -/
theorem wpList_ccv (hw : Region.wanted o (yielded ops a.tmps) = true) (src dst : TypeId) (l : Operand) (hop : o.op = Op.convert src dst l) (x y : Nat) (hl : a.eval l = .complex .f32 x y) (hs : (P.underlying src).isSome = true) (hd : P.underlying dst = some (.complex .f64))
    (hK : ∀ u v n, Hid (nz .f64 u = fcv .f32 .f64 x) → Hid (nz .f64 v = fcv .f32 .f64 y) → wpList P ops Q rest (a.put o.dst (.complex .f64 u v)) (w.drewN n)) : wpList P ops Q (o :: rest) a w := by
  refine wpList_step fun K hK' => ?_
  rw [if_pos hw]
  obtain ⟨u, n, h1, h2, _⟩ := run_ff (P := P) w x
  obtain ⟨v, m, h3, h4, _⟩ := run_ff (P := P) (w.drewN n) y
  obtain ⟨U, hs'⟩ := Option.isSome_iff_exists.1 hs
  have hrun : (convert src dst (.complex .f32 x y)).run P w = .ok (.complex .f64 u v) (w.drewN (n + m)) := by
    cases U <;> simp [convert, run_underlying hs', run_underlying hd, Conv.complexToComplex, h1, h3]
  unfold Oper.wp
  simp [execOp, hop, hl, hrun, Result.andThen]
  exact hK' _ _ (hK u v (n + m) h2 h4)
end
theorem sine_neg_narrows {y v x : Nat} (hy : bdW double y (52 + oneE)) (hv : nz .f64 v = sineV y) (hx : nz .f64 x = fop .sub .f64 0 v) : narrows .f64 .f32 x := by
  have hb := sineF_bd (frac_bd hy)
  have e : v = sineV y := eq_of_nz hv (nanB_fin (k := .f64) hb.1)
  have hb2 : bdW double (fop .sub .f64 0 v) 1177 := by rw [e]; exact bdW_mono (b_sub b_zero hb (by omega) (by omega)) (by omega)
  have e2 : x = fop .sub .f64 0 v := eq_of_nz hx (nanB_fin (k := .f64) hb2.1)
  rw [e2]; exact narrows_bd hb2 (by omega)
end
section
def tnext (t : Nat) : Nat := fop .quo .f64 t (fop .add .f64 4607182418800017408 (fsq (fop .add .f64 4607182418800017408 (fop .mul .f64 t t))))
def tIt (t : Nat) : Nat → Nat
  | 0 => t
  | j + 1 => tnext (tIt t j)
def pIt (u : Nat) : Nat → Nat
  | 0 => 0
  | j + 1 => fop .sub .f64 (fop .quo .f64 4607182418800017408 (floatOfInt .f64 (15 - 2 * (j : Int)))) (fop .mul .f64 u (pIt u j))
def ang0 (t : Nat) : Nat := fop .quo .f64 (fop .mul .f64 4620693217682128896 (fop .mul .f64 t (pIt (fop .mul .f64 t t) 8))) 4618760256179416344
def ang1 (over : Bool) (a : Nat) : Nat := if over then fop .sub .f64 4598175219545276416 a else a
def ang2 (xn : Bool) (a : Nat) : Nat := if xn then fop .sub .f64 4602678819172646912 a else a
def ang3 (yn : Bool) (a : Nat) : Nat := if yn then nz .f64 (Op.negFloat .f64 a) else a
/-- The angle out of a quotient. -/
def angV (over xn yn : Bool) (t : Nat) : Nat := ang3 yn (ang2 xn (ang1 over (ang0 (tIt t 3))))

theorem tnext_nz (t : Nat) : tnext (nz .f64 t) = tnext t := by unfold tnext; rw [fop_nz_left .quo, fop_nz_left .mul, fop_nz_right .mul]
theorem tIt_nz (t : Nat) : ∀ j, tIt (nz .f64 t) (j + 1) = tIt t (j + 1)
  | 0 => by show tnext (nz .f64 t) = tnext t; exact tnext_nz t
  | j + 1 => by show tnext (tIt (nz .f64 t) (j + 1)) = tnext (tIt t (j + 1)); rw [tIt_nz t j]
theorem pIt_nz (u : Nat) : ∀ j, pIt (nz .f64 u) j = pIt u j
  | 0 => rfl
  | j + 1 => by unfold pIt; rw [pIt_nz u j, fop_nz_left]
theorem t_step {T v a b c d e : Nat} (hv : Hid (nz .f64 v = T)) (ha : Hid (nz .f64 a = fop .mul .f64 v v)) (hb : Hid (nz .f64 b = fop .add .f64 4607182418800017408 a)) (hc : Hid (nz .f64 c = fsq b)) (hd : Hid (nz .f64 d = fop .add .f64 4607182418800017408 c)) (he : Hid (nz .f64 e = fop .quo .f64 v d)) : Hid (nz .f64 e = tnext T) := by
  unfold Hid
  rw [← hv.out, tnext_nz]
  unfold tnext
  rw [he.out, ← fop_nz_right .quo .f64 v d, hd.out, ← fop_nz_right .add .f64 _ c, hc.out, ← fsq_nz b, hb.out, ← fop_nz_right .add .f64 _ a, ha.out]
theorem p_step {u v j a b c : Nat} (hv : Hid (nz .f64 v = pIt u j)) (ha : Hid (nz .f64 a = fop .quo .f64 4607182418800017408 (floatOfInt .f64 (15 - 2 * (j : Int))))) (hb : Hid (nz .f64 b = fop .mul .f64 u v)) (hc : Hid (nz .f64 c = fop .sub .f64 a b)) : Hid (nz .f64 c = pIt u (j + 1)) := by
  unfold Hid pIt
  rw [hc.out, ← fop_nz_left .sub .f64 a b, ha.out, ← fop_nz_right .sub .f64 _ b, hb.out, ← fop_nz_right .mul .f64 u v, hv.out]
theorem a_end {T v u p a b c : Nat} (hv : Hid (nz .f64 v = T)) (hu : Hid (nz .f64 u = fop .mul .f64 v v)) (hp : Hid (nz .f64 p = pIt u 8)) (ha : Hid (nz .f64 a = fop .mul .f64 v p)) (hb : Hid (nz .f64 b = fop .mul .f64 4620693217682128896 a)) (hc : Hid (nz .f64 c = fop .quo .f64 b 4618760256179416344)) : Hid (nz .f64 c = ang0 T) := by
  unfold Hid ang0
  rw [hc.out, ← fop_nz_left .quo .f64 b, hb.out, ← fop_nz_right .mul .f64 _ a, ha.out, ← fop_nz_left .mul .f64 v p, ← fop_nz_right .mul .f64 _ p, hp.out, ← pIt_nz u, hu.out, ← fop_nz_left .mul .f64 v v, ← fop_nz_right .mul .f64 _ v, hv.out]
theorem a1_yes {v A u : Nat} (hv : Hid (nz .f64 v = A)) (hu : Hid (nz .f64 u = fop .sub .f64 4598175219545276416 v)) : Hid (nz .f64 u = ang1 true A) := by
  unfold Hid ang1; rw [hu.out, ← fop_nz_right .sub .f64 _ v, hv.out]; rfl
theorem a2_yes {v A u : Nat} (hv : Hid (nz .f64 v = A)) (hu : Hid (nz .f64 u = fop .sub .f64 4602678819172646912 v)) : Hid (nz .f64 u = ang2 true A) := by
  unfold Hid ang2; rw [hu.out, ← fop_nz_right .sub .f64 _ v, hv.out]; rfl
theorem a3_yes {v A : Nat} (hv : Hid (nz .f64 v = A)) : Hid (nz .f64 (Op.negFloat .f64 v) = ang3 true A) := by
  unfold Hid ang3; rw [if_pos rfl, ← hv.out]; exact (nz_neg v).symm
theorem a_no1 {v A : Nat} (hv : Hid (nz .f64 v = A)) : Hid (nz .f64 v = ang1 false A) := hv
theorem a_no2 {v A : Nat} (hv : Hid (nz .f64 v = A)) : Hid (nz .f64 v = ang2 false A) := hv
theorem a_no3 {v A : Nat} (hv : Hid (nz .f64 v = A)) : Hid (nz .f64 v = ang3 false A) := hv

/-! The bounds. -/
theorem b_eight : bdW double 4620693217682128896 1077 := b_word (by decide) (by decide +kernel)
theorem quo_le {x y : Nat} (hx : finW double x) (hy : finW double y) (h0 : 0 < unitsR double (rgW double y)) (hle : unitsR double (rgW double x) ≤ unitsR double (rgW double y)) : bdW double (fop .quo .f64 x y) 1076 := by
  have h1 := Nat.log2_self_le (show unitsR double (rgW double y) ≠ 0 by omega)
  have h2 : unitsR double (rgW double y) < 2 ^ ((unitsR double (rgW double y)).log2 + 1) := Nat.lt_log2_self
  have hb : bdW double x ((unitsR double (rgW double y)).log2 + 1) := ⟨hx, by omega⟩
  exact bdW_mono (b_div hb hy h1 (by omega) (by omega)) (by omega)
theorem add_one_ge {s K : Nat} (hs : bdW double s K) (h0 : 0 ≤ valW double s) (h1 : 52 ≤ K) (h2 : K ≤ 2090) : bdW double (fop .add .f64 4607182418800017408 s) (max 1074 K + 1) ∧ sgW double (fop .add .f64 4607182418800017408 s) = false ∧ 2 ^ oneE ≤ unitsR double (rgW double (fop .add .f64 4607182418800017408 s)) := by
  have e := add_fin double fone hs.1
  have hp := Nat.two_pow_pos oneE
  have hv := vone
  have hz : ¬ valW double 4607182418800017408 + valW double s = 0 := by omega
  have hn : ¬ valW double 4607182418800017408 + valW double s < 0 := by omega
  simp only [hz, if_false, hn, decide_false] at e
  have ef := fop_add_some e
  have hsw := rung_lt_sw double (valW double 4607182418800017408 + valW double s).natAbs double.leastPlace
  obtain ⟨p1, p2⟩ := units_pow (K := oneE) (by decide) (by decide)
  refine ⟨b_add b_one hs (by omega) (by omega), by rw [ef]; exact sgW_word double _ hsw, ?_⟩
  rw [ef, rgW_word double _ hsw]
  have hge : rungPow double oneE ≤ rung double (valW double 4607182418800017408 + valW double s).natAbs double.leastPlace := le_rung_of_le double _ _ double.leastPlace _ (Nat.le_of_lt p1) (Int.le_refl _) (Int.le_refl _) (by
    rw [p2]; simp only [Int.sub_self, Int.toNat_zero, Nat.pow_zero, Nat.mul_one]; omega)
  have := units_lt_iff double (r := rung double (valW double 4607182418800017408 + valW double s).natAbs double.leastPlace) (s := rungPow double oneE) (rung_le_inf _ _ _) (Nat.le_of_lt p1)
  rw [← p2]; omega
theorem val_nonneg {x : Nat} (h : sgW double x = false) : 0 ≤ valW double x := by unfold valW; rw [h]; simp
theorem mul_self_nonneg {t : Nat} (ht : finW double t) : 0 ≤ valW double (fop .mul .f64 t t) := by
  have e := mul_fin double ht ht
  have e2 : floatBits .mul .f64 t t = double.mul t t := rfl
  have e3 : fop .mul .f64 t t = double.word (sgW double t ^^ sgW double t) (rung double (unitsR double (rgW double t) * unitsR double (rgW double t)) (double.leastPlace + double.leastPlace)) := by unfold fop; rw [e2, e]; rfl
  apply val_nonneg
  rw [e3, sgW_word double _ (rung_lt_sw _ _ _)]
  cases sgW double t <;> rfl
theorem sqrt_some {b j : Nat} (h : bdW double b (1182 + 2 * j)) (hj : j ≤ 900) (hs : sgW double b = false) : bdW double (fsq b) (1129 + j) ∧ 0 ≤ valW double (fsq b) := by
  rcases bd_sqrt h hj with h1 | ⟨r, h1, h2⟩
  · exfalso
    unfold Format.sqrt at h1
    rw [read_fin double h.1, hs] at h1
    simp only [Datum.root] at h1
    split at h1 <;> simp at h1
  · have e : fsq b = r := by unfold fsq; rw [h1]; rfl
    rw [e]
    refine ⟨h2, ?_⟩
    apply val_nonneg
    unfold Format.sqrt at h1
    rw [read_fin double h.1, hs] at h1
    simp only [Datum.root] at h1
    split at h1
    · simp only [Option.map_some, Format.write, nearest_eq, Option.some.injEq] at h1
      rw [← h1]; exact sgW_word double _ (rung_lt_sw _ _ _)
    · simp only [Bool.false_eq_true, if_false, Option.map_some, Format.write, nearest_eq, Option.some.injEq] at h1
      rw [← h1]; exact sgW_word double _ (rung_lt_sw _ _ _)
theorem tnext_bd {t K : Nat} (ht : bdW double t K) (h1 : 1074 ≤ K) (h2 : K ≤ 1100) : bdW double (tnext t) (K + 1) := by
  have hm := b_mul ht ht (by omega) (by omega)
  obtain ⟨a1, a2, _⟩ := add_one_ge hm (mul_self_nonneg ht.1) (by omega) (by omega)
  obtain ⟨s1, s2⟩ := sqrt_some (j := 0) (bdW_mono a1 (by omega)) (by omega) a2
  obtain ⟨d1, _, d3⟩ := add_one_ge s1 s2 (by omega) (by omega)
  unfold tnext
  have ho : oneE = 1074 := rfl
  rw [ho] at d3
  exact bdW_mono (b_div ht d1.1 d3 (by omega) (by omega)) (by omega)
theorem pIt_bd {u : Nat} (hu : bdW double u 1084) : ∀ j, j ≤ 8 → bdW double (pIt u j) (1074 + 11 * j)
  | 0, _ => by unfold pIt; exact b_zero
  | j + 1, hj => by
    have ih := pIt_bd hu j (by omega)
    unfold pIt
    have hm := b_mul hu ih (by omega) (by omega)
    obtain ⟨k, hk⟩ : ∃ k : Nat, k = 15 - 2 * j := ⟨_, rfl⟩
    have ek : (15 : Int) - 2 * (j : Int) = (k : Int) := by omega
    rw [ek]
    obtain ⟨r, e, h2, h3⟩ := ofInt_word (k : Int) (by omega)
    have hs := Nat.lt_trans h2 double.infRung_lt
    have hf : finW double (floatOfInt .f64 (k : Int)) := by rw [e]; unfold finW; rw [rgW_word _ _ hs]; exact h2
    have hJ : 2 ^ oneE ≤ unitsR double (rgW double (floatOfInt .f64 (k : Int))) := by
      rw [e, rgW_word _ _ hs, h3]
      exact Nat.le_mul_of_pos_left _ (by omega)
    have ho : oneE = 1074 := rfl
    rw [ho] at hJ
    have hd := b_div b_one hf hJ (by omega) (by omega)
    exact bdW_mono (b_sub hd hm (by omega) (by omega)) (by omega)
theorem full_ge : 2 ^ 1076 ≤ unitsR double (rgW double 4618760256179416344) := by decide +kernel
theorem angV_bd {t : Nat} (over xn yn : Bool) (ht : bdW double t 1076) : bdW double (angV over xn yn t) 1172 := by
  have h3 : bdW double (tIt t 3) 1079 := tnext_bd (tnext_bd (tnext_bd ht (by omega) (by omega)) (by omega) (by omega)) (by omega) (by omega)
  have hu : bdW double (fop .mul .f64 (tIt t 3) (tIt t 3)) 1084 := bdW_mono (b_mul h3 h3 (by omega) (by omega)) (by omega)
  have hp := pIt_bd hu 8 (by omega)
  have h0 : bdW double (ang0 (tIt t 3)) 1169 := by
    unfold ang0
    have m1 := b_mul h3 hp (by omega) (by omega)
    have m2 := b_mul b_eight m1 (by omega) (by omega)
    exact bdW_mono (b_div m2 b_full.1 full_ge (by omega) (by omega)) (by omega)
  have h1 : bdW double (ang1 over (ang0 (tIt t 3))) 1170 := by
    unfold ang1; split
    · exact bdW_mono (b_sub b_quart h0 (by omega) (by omega)) (by omega)
    · exact bdW_mono h0 (by omega)
  have h2 : bdW double (ang2 xn (ang1 over (ang0 (tIt t 3)))) 1171 := by
    unfold ang2; split
    · exact bdW_mono (b_sub b_half h1 (by omega) (by omega)) (by omega)
    · exact bdW_mono h1 (by omega)
  unfold angV ang3
  split
  · have hn := b_neg h2
    rw [nz_num (nanB_fin (k := .f64) hn.1)]; exact bdW_mono hn (by omega)
  · exact bdW_mono h2 (by omega)
end
end Go.Proofs.Ytocclddnaaaohaa.Fl
