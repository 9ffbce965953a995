/- Words of floats: halving and doubling, the logarithm's steps and their bounds. No condition. -/
import Derived.Test.YtocclddnaaaohaaFs
namespace Go.Proofs.Ytocclddnaaaohaa.Fl
open Go Ieee Go.RowKit
section
def stepW : Nat := 2 ^ 52
theorem stepW_eq : stepW = double.binade := rfl
theorem infD : double.infRung = 2047 * stepW := by decide

theorem pos_word {v : Nat} (h : v < double.infRung) : sgW double v = false ∧ rgW double v = v := by
  have hs := Nat.lt_trans h double.infRung_lt
  have e : double.word false v = v := rfl
  exact ⟨by have := sgW_word double false hs; rwa [e] at this, by have := rgW_word double false hs; rwa [e] at this⟩
theorem fin_pos {v : Nat} (h : v < double.infRung) : finW double v := by unfold finW; rw [(pos_word h).2]; exact h

/-- A NORMAL NUMBER HALVED, DOUBLED: one binade down, up. -/
theorem up_word {w : Nat} (h1 : stepW ≤ w) : mgR double (w + stepW) = mgR double w ∧ exR double (w + stepW) = exR double w + 1 := by
  have hb : double.binade = stepW := rfl
  have hp : 0 < stepW := by decide
  have hnl : ¬ w < double.binade := by rw [hb]; omega
  have hnl2 : ¬ w + stepW < double.binade := by rw [hb]; omega
  have hd1 : 1 ≤ w / stepW := (Nat.le_div_iff_mul_le hp).2 (by omega)
  refine ⟨?_, ?_⟩
  · unfold mgR; rw [if_neg hnl, if_neg hnl2, hb, Nat.add_mod_right]
  · unfold exR; rw [if_neg hnl, if_neg hnl2, hb, Nat.add_div_right _ hp]; omega
theorem mg_lt (v : Nat) : mgR double v < 2 ^ 53 := by
  unfold mgR
  have : v % double.binade < double.binade := Nat.mod_lt _ (binade_pos _)
  have h3 : double.binade = 2 ^ 52 := rfl
  split <;> omega
theorem half_val (m : Nat) (x : Int) (hm : m < 2 ^ 53) : (Datum.quotient 54 (.number false m (x + 1)) (.number false (2 ^ 52) (-51))).map double.write = some (double.word false (rung double m x)) := by
  have hl : m.log2 ≤ 52 := log2_le_of_lt hm
  have h52 : (2 ^ 52 : Nat).log2 = 52 := by decide +kernel
  have hne : ¬ (2 ^ 52 : Nat) = 0 := by decide
  simp only [Datum.quotient, hne, if_false, Option.map_some, Format.write, nearest_eq, h52]
  obtain ⟨t, ht⟩ : ∃ t, 54 + 52 - m.log2 = 52 + t := ⟨54 - m.log2, by omega⟩
  rw [ht, Nat.shiftLeft_eq]
  have e1 : m * 2 ^ (52 + t) = m * 2 ^ t * 2 ^ 52 := by rw [Nat.pow_add]; ac_rfl
  have hd : m * 2 ^ (52 + t) / 2 ^ 52 = m * 2 ^ t := by rw [e1, Nat.mul_div_cancel _ (by decide)]
  have hrr : m * 2 ^ (52 + t) % 2 ^ 52 = 0 := by rw [e1, Nat.mul_mod_left]
  rw [hd, hrr]
  have e2 : 2 * (m * 2 ^ t) + ((0 : Nat) != 0).toNat = m * 2 ^ (t + 1) := by rw [Nat.pow_succ]; simp; ac_rfl
  rw [e2]
  have r1 := rung_scale double m x (t + 1)
  rw [show x + 1 - (-51) - ((52 + t : Nat) : Int) - 1 = x - ((t + 1 : Nat) : Int) by omega, r1]
  rfl
theorem half_word {w : Nat} (h1 : stepW ≤ w) (h2 : w + stepW < double.infRung) : double.div (w + stepW) 4611686018427387904 = some w := by
  obtain ⟨hs, hr⟩ := pos_word h2
  have htwo : double.read 4611686018427387904 = .number false (2 ^ 52) (-51) := by decide +kernel
  obtain ⟨e1, e2⟩ := up_word h1
  have hself := rung_self double (r := w) (by omega)
  unfold Format.div
  rw [read_fin double (fin_pos h2), htwo, hs, hr, e1, e2]
  have hk := half_val (mgR double w) (double.leastPlace + (exR double w : Int)) (mg_lt w)
  rw [hself] at hk
  have ea : double.leastPlace + ((exR double w + 1 : Nat) : Int) = double.leastPlace + (exR double w : Int) + 1 := by omega
  rw [ea]
  exact hk
theorem double_word {v : Nat} (h1 : stepW ≤ v) (h2 : v + stepW < double.infRung) : double.mul v 4611686018427387904 = some (v + stepW) := by
  have h2' : v < double.infRung := by omega
  obtain ⟨hs, hr⟩ := pos_word h2'
  have htwo : double.read 4611686018427387904 = .number false (2 ^ 52) (-51) := by decide +kernel
  obtain ⟨hmg, hex⟩ := up_word h1
  unfold Format.mul
  rw [read_fin double (fin_pos h2'), htwo, hs, hr]
  have hself := rung_self double (r := v + stepW) (Nat.le_of_lt h2)
  rw [hmg, hex] at hself
  simp only [Datum.product, Option.map_some, Format.write, nearest_eq]
  have r1 := rung_scale double (mgR double v) (double.leastPlace + ((exR double v + 1 : Nat) : Int)) 52
  rw [show double.leastPlace + (exR double v : Int) + (-51) = double.leastPlace + ((exR double v + 1 : Nat) : Int) - ((52 : Nat) : Int) by omega, r1, hself]
  rfl

/-- 1.5 and 0.75 as words. -/
def c15 : Nat := 4609434218613702656
def c75 : Nat := 4604930618986332160
theorem geq15 {v : Nat} (h : v < double.infRung) : (FloatKind.f64.format.order v 4609434218613702656 == some .gt || FloatKind.f64.format.order v 4609434218613702656 == some .eq) = decide (c15 ≤ v) := by
  have ho : FloatKind.f64.format.order v 4609434218613702656 = some (compare v 4609434218613702656) := order_word_fin double h (by decide)
  rw [ho]
  simp only [compare, compareOfLessAndEq]
  unfold c15
  by_cases h1 : v < 4609434218613702656
  · simp [h1]
  · by_cases h2 : v = 4609434218613702656
    · simp [h2]
    · simp [h1, h2]; omega
theorem lt75 {v : Nat} (h : v < double.infRung) : (FloatKind.f64.format.order v 4604930618986332160 == some .lt) = decide (v < c75) := by
  have ho : FloatKind.f64.format.order v 4604930618986332160 = some (compare v 4604930618986332160) := order_word_fin double h (by decide)
  rw [ho]
  simp only [compare, compareOfLessAndEq]
  unfold c75
  by_cases h1 : v < 4604930618986332160
  · simp [h1]
  · by_cases h2 : v = 4604930618986332160
    · simp [h2]
    · simp [h1, h2]

/-- How often it is halved, and then doubled. -/
def halves (v : Nat) : Nat := if v < c15 then 0 else (v - c15) / stepW + 1
def doubles (v : Nat) : Nat := if c75 ≤ v then 0 else (c75 - v + stepW - 1) / stepW
theorem stepL : stepW = 4503599627370496 := by decide
theorem c15L : c15 = 4609434218613702656 := rfl
theorem c75L : c75 = 4604930618986332160 := rfl
theorem halves_of {v j : Nat} (h1 : v - j * stepW < c15) (h0 : j = 0 ∨ c15 ≤ v - (j - 1) * stepW) (hv : j * stepW ≤ v) : halves v = j := by
  unfold halves
  simp only [stepL, c15L] at *
  rcases h0 with rfl | h0
  · rw [if_pos (by omega)]
  · by_cases hj : j = 0
    · subst hj; rw [if_pos (by omega)]
    · rw [if_neg (by omega)]; omega
theorem doubles_of {v j : Nat} (h1 : c75 ≤ v + j * stepW) (h0 : j = 0 ∨ v + (j - 1) * stepW < c75) : doubles v = j := by
  unfold doubles
  simp only [stepL, c75L] at *
  rcases h0 with rfl | h0
  · rw [if_pos (by omega)]
  · by_cases hj : j = 0
    · subst hj; rw [if_pos (by omega)]
    · rw [if_neg (by omega)]; omega
end
section
def normX (v : Nat) : Nat := (v - halves v * stepW) + doubles (v - halves v * stepW) * stepW
def normE (v : Nat) : Int := (halves v : Int) - (doubles (v - halves v * stepW) : Int)
theorem norm_range {v : Nat} (h1 : 874 * stepW ≤ v) (h2 : v < 1151 * stepW) : c75 ≤ normX v ∧ normX v < c15 ∧ -1000 ≤ normE v ∧ normE v ≤ 1000 := by
  unfold normX normE halves doubles
  simp only [stepL, c15L, c75L] at *
  by_cases c : v < 4609434218613702656
  · rw [if_pos c]
    simp only [Nat.zero_mul, Nat.sub_zero]
    by_cases c2 : 4604930618986332160 ≤ v
    · rw [if_pos c2]; omega
    · rw [if_neg c2]; omega
  · rw [if_neg c, if_pos (by omega)]; omega

def qIt (u : Nat) : Nat → Nat
  | 0 => 0
  | j + 1 => fop .add .f64 (fop .quo .f64 4607182418800017408 (floatOfInt .f64 (25 - 2 * (j : Int)))) (fop .mul .f64 u (qIt u j))
def sV (x : Nat) : Nat := fop .quo .f64 (fop .sub .f64 x 4607182418800017408) (fop .add .f64 x 4607182418800017408)
def logV (x : Nat) (e : Int) : Nat := fop .add .f64 (fop .mul .f64 4611686018427387904 (fop .mul .f64 (sV x) (qIt (fop .mul .f64 (sV x) (sV x)) 13))) (fop .mul .f64 (floatOfInt .f64 e) 4604418534313441775)
def zV (l : Nat) : Nat := fop .add .f64 (fop .mul .f64 l 4631308968768463603) 4602678819172646912
def floorW (z : Nat) : Nat := FloatKind.f64.encode ((FloatKind.f64.decode z).integral .down)
/-- The tenths of decibels of a word in 64 bits. -/
def tenI (v : Nat) : Int := wholeI (floorW (zV (logV (normX v) (normE v))))

theorem qIt_nz (u : Nat) : ∀ j, qIt (nz .f64 u) j = qIt u j
  | 0 => rfl
  | j + 1 => by unfold qIt; rw [qIt_nz u j, fop_nz_left]
theorem s_end {x a b s : Nat} (ha : Hid (nz .f64 a = fop .sub .f64 x 4607182418800017408)) (hb : Hid (nz .f64 b = fop .add .f64 x 4607182418800017408)) (hs : Hid (nz .f64 s = fop .quo .f64 a b)) : Hid (nz .f64 s = sV x) := by
  unfold Hid sV
  rw [hs.out, ← fop_nz_left .quo .f64 a b, ha.out, ← fop_nz_right .quo .f64 _ b, hb.out]
theorem q_step {u v j a b c : Nat} (hv : Hid (nz .f64 v = qIt u j)) (ha : Hid (nz .f64 a = fop .quo .f64 4607182418800017408 (floatOfInt .f64 (25 - 2 * (j : Int))))) (hb : Hid (nz .f64 b = fop .mul .f64 u v)) (hc : Hid (nz .f64 c = fop .add .f64 a b)) : Hid (nz .f64 c = qIt u (j + 1)) := by
  unfold Hid qIt
  rw [hc.out, ← fop_nz_left .add .f64 a b, ha.out, ← fop_nz_right .add .f64 _ b, hb.out, ← fop_nz_right .mul .f64 u v, hv.out]
theorem l_end {x s u q a b c l : Nat} {e : Int} (hs : Hid (nz .f64 s = sV x)) (hu : Hid (nz .f64 u = fop .mul .f64 s s)) (hq : Hid (nz .f64 q = qIt u 13)) (ha : Hid (nz .f64 a = fop .mul .f64 s q)) (hb : Hid (nz .f64 b = fop .mul .f64 4611686018427387904 a)) (hc : Hid (nz .f64 c = fop .mul .f64 (floatOfInt .f64 e) 4604418534313441775)) (hl : Hid (nz .f64 l = fop .add .f64 b c)) : Hid (nz .f64 l = logV x e) := by
  unfold Hid logV
  rw [hl.out, ← fop_nz_left .add .f64 b c, hb.out, ← fop_nz_right .add .f64 _ c, hc.out, ← fop_nz_right .mul .f64 _ a, ha.out, ← fop_nz_left .mul .f64 s q, ← fop_nz_right .mul .f64 _ q, hs.out, hq.out, ← qIt_nz u, hu.out, ← fop_nz_left .mul .f64 s s, ← fop_nz_right .mul .f64 _ s, hs.out]
theorem z_end {l L a z : Nat} (hl : Hid (nz .f64 l = L)) (ha : Hid (nz .f64 a = fop .mul .f64 l 4631308968768463603)) (hz : Hid (nz .f64 z = fop .add .f64 a 4602678819172646912)) : Hid (nz .f64 z = zV L) := by
  unfold Hid zV
  rw [hz.out, ← fop_nz_left .add .f64 a, ha.out, ← fop_nz_left .mul .f64 l, hl.out]

/-! The bounds. -/
theorem b_sub_abs {x y K : Nat} (hx : finW double x) (hy : finW double y) (h1 : 52 ≤ K) (h2 : K ≤ 2096) (h : (valW double x - valW double y).natAbs ≤ 2 ^ K) : bdW double (fop .sub .f64 x y) K := by
  have e := sub_fin double (by decide) hx hy
  rw [fop_sub_some e]
  refine bd_word double _ (fb64 h1) (ok64 h2) ?_
  refine bd_rung double (q := double.leastPlace) (Int.le_refl _) (Int.le_refl _) (fb64 h1) (ok64 h2) ?_
  simp only [Int.sub_self, Int.toNat_zero, Nat.pow_zero, Nat.mul_one]; exact h
theorem add_comm_fin {x y : Nat} (hx : finW double x) (hy : finW double y) : fop .add .f64 x y = fop .add .f64 y x := by
  rw [fop_add_some (add_fin double hx hy), fop_add_some (add_fin double hy hx), Int.add_comm (valW double y), Bool.and_comm (sgW double y)]
theorem val_pos {v : Nat} (h : v < double.infRung) : valW double v = (unitsR double v : Int) := by
  obtain ⟨a, b⟩ := pos_word h
  unfold valW; rw [a, b]; rfl
theorem u75 : unitsR double c75 = 3 * 2 ^ (oneE - 2) := by decide +kernel
theorem u15 : unitsR double c15 = 6 * 2 ^ (oneE - 2) := by decide +kernel
theorem uone : 2 ^ oneE = 4 * 2 ^ (oneE - 2) := by
  rw [show oneE = oneE - 2 + 2 from rfl, Nat.pow_add]
  simp only [Nat.add_sub_cancel]
  rw [Nat.mul_comm]
theorem uhalf : 2 ^ (oneE - 1) = 2 * 2 ^ (oneE - 2) := by
  rw [show oneE - 1 = oneE - 2 + 1 from rfl, Nat.pow_succ, Nat.mul_comm]
theorem sV_bd {x : Nat} (h1 : c75 ≤ x) (h2 : x < c15) : bdW double (sV x) 1075 := by
  have hi : double.infRung = 9218868437227405312 := rfl
  have hx : x < double.infRung := by rw [c15L] at h2; omega
  have hf := fin_pos hx
  have hv := val_pos hx
  have lo : unitsR double c75 ≤ unitsR double x := by
    have := units_lt_iff double (r := x) (s := c75) (Nat.le_of_lt hx) (by rw [c75L]; omega)
    omega
  have up : unitsR double x < unitsR double c15 := units_lt double h2 (by rw [c15L]; omega)
  rw [u75] at lo
  rw [u15] at up
  have hone := vone
  have a := uone
  have b := uhalf
  have hsub : bdW double (fop .sub .f64 x 4607182418800017408) (oneE - 1) := by
    refine b_sub_abs hf fone (by decide) (by decide) ?_
    rw [hone, hv, a, b]
    generalize 2 ^ (oneE - 2) = Z at *
    omega
  have hbx : bdW double x 1075 := ⟨hf, by
    rw [(pos_word hx).2]
    have e : 2 ^ (oneE + 1) = 8 * 2 ^ (oneE - 2) := by rw [Nat.pow_succ, uone]; omega
    have e2 : oneE + 1 = 1075 := rfl
    rw [← e2, e]; omega⟩
  obtain ⟨d1, _, d3⟩ := add_one_ge hbx (by rw [hv]; omega) (by omega) (by omega)
  rw [add_comm_fin fone hf] at d1 d3
  have ho : oneE = 1074 := rfl
  rw [ho] at d3 hsub
  unfold sV
  have hq := b_div (bdW_mono hsub (show 1074 - 1 ≤ 1074 by omega)) d1.1 d3 (by omega) (by omega)
  exact bdW_mono hq (by omega)
theorem b_two : bdW double 4611686018427387904 1075 := b_word (by decide) (by decide +kernel)
theorem b_693 : bdW double 4604418534313441775 1074 := b_word (by decide) (by decide +kernel)
theorem b_434 : bdW double 4631308968768463603 1080 := b_word (by decide) (by decide +kernel)
theorem qIt_bd {u : Nat} (hu : bdW double u 1076) : ∀ j, j ≤ 13 → bdW double (qIt u j) (1074 + 3 * j)
  | 0, _ => by unfold qIt; exact b_zero
  | j + 1, hj => by
    have ih := qIt_bd hu j (by omega)
    unfold qIt
    have hm := b_mul hu ih (by omega) (by omega)
    obtain ⟨k, hk⟩ : ∃ k : Nat, k = 25 - 2 * j := ⟨_, rfl⟩
    have ek : (25 : Int) - 2 * (j : Int) = (k : Int) := by omega
    rw [ek]
    obtain ⟨r, e, h2, h3⟩ := ofInt_word (k : Int) (by omega)
    have hs := Nat.lt_trans h2 double.infRung_lt
    have hf : finW double (floatOfInt .f64 (k : Int)) := by rw [e]; unfold finW; rw [rgW_word _ _ hs]; exact h2
    have hJ : 2 ^ oneE ≤ unitsR double (rgW double (floatOfInt .f64 (k : Int))) := by
      rw [e, rgW_word _ _ hs, h3]
      exact Nat.le_mul_of_pos_left _ (by omega)
    have ho : oneE = 1074 := rfl
    rw [ho] at hJ
    have hd := b_div b_one hf hJ (by omega) (by omega)
    exact bdW_mono (b_add hd hm (by omega) (by omega)) (by omega)
theorem ofInt_bd {e : Int} {K : Nat} (h : e.natAbs ≤ 2 ^ K) (hK : K ≤ 52) : bdW double (floatOfInt .f64 e) (K + oneE) := by
  have hlt : 2 ^ K ≤ 2 ^ 52 := Nat.pow_le_pow_right (by omega) hK
  obtain ⟨r, e1, h2, h3⟩ := ofInt_word e (by omega)
  have hs := Nat.lt_trans h2 double.infRung_lt
  rw [e1]
  refine ⟨by unfold finW; rw [rgW_word _ _ hs]; exact h2, ?_⟩
  rw [rgW_word _ _ hs, h3, Nat.pow_add]
  exact Nat.mul_le_mul_right _ h
theorem zV_bd {x : Nat} {e : Int} (h1 : c75 ≤ x) (h2 : x < c15) (he : -1000 ≤ e ∧ e ≤ 1000) : bdW double (zV (logV x e)) 1123 := by
  have hs := sV_bd h1 h2
  have hu : bdW double (fop .mul .f64 (sV x) (sV x)) 1076 := bdW_mono (b_mul hs hs (by omega) (by omega)) (by omega)
  have hq := qIt_bd hu 13 (by omega)
  have m1 := b_mul hs hq (by omega) (by omega)
  have m2 := b_mul b_two m1 (by omega) (by omega)
  have e1 : bdW double (floatOfInt .f64 e) 1084 := ofInt_bd (K := 10) (by omega) (by omega)
  have m3 := b_mul e1 b_693 (by omega) (by omega)
  have l1 : bdW double (logV x e) 1116 := by unfold logV; exact bdW_mono (b_add m2 m3 (by omega) (by omega)) (by omega)
  have m4 := b_mul l1 b_434 (by omega) (by omega)
  unfold zV
  exact bdW_mono (b_add m4 b_half (by omega) (by omega)) (by omega)
theorem cut_le (way : Toward) (neg : Bool) (n drop : Nat) : way.cut neg n drop ≤ n / 2 ^ drop + 1 := by
  unfold Toward.cut
  simp only [Nat.shiftLeft_eq, Nat.one_mul]
  have hb : ∀ b : Bool, b.toNat ≤ 1 := fun b => by cases b <;> simp
  by_cases h : drop ≤ n.log2 + 2
  · rw [Nat.min_eq_left h]; exact Nat.add_le_add_left (hb _) _
  · rw [Nat.min_eq_right (by omega)]
    have hn : n < 2 ^ (n.log2 + 1) := Nat.lt_log2_self
    have h2 : 2 ^ (n.log2 + 1) ≤ 2 ^ (n.log2 + 2) := Nat.pow_le_pow_right (by omega) (by omega)
    rw [Nat.div_eq_of_lt (show n < 2 ^ (n.log2 + 2) by omega)]
    exact Nat.add_le_add (Nat.zero_le _) (hb _)
theorem floor_bd {z : Nat} (h : bdW double z 1123) : bdW double (floorW z) (52 + oneE) := by
  have hd : FloatKind.f64.decode z = .number (sgW double z) (mgR double (rgW double z)) (double.leastPlace + exR double (rgW double z)) := read_fin double h.1
  unfold floorW
  rw [hd]
  simp only [Datum.integral]
  have hc := cut_le .down (sgW double z) (mgR double (rgW double z) <<< (double.leastPlace + (exR double (rgW double z) : Int)).toNat) (-(double.leastPlace + (exR double (rgW double z) : Int))).toNat
  have hw : mgR double (rgW double z) <<< (double.leastPlace + (exR double (rgW double z) : Int)).toNat / 2 ^ (-(double.leastPlace + (exR double (rgW double z) : Int))).toNat = wholeN z := by
    have e := integral_fin h.1
    rw [read_fin double h.1] at e
    simp only [Datum.integral, cut_zero] at e
    injection e
  rw [hw] at hc
  generalize Toward.down.cut (sgW double z) (mgR double (rgW double z) <<< (double.leastPlace + (exR double (rgW double z) : Int)).toNat) (-(double.leastPlace + (exR double (rgW double z) : Int))).toNat = c at *
  have hz : bdW double z (49 + oneE) := h
  have hN := wholeN_le hz
  have hen : FloatKind.f64.encode (.number (sgW double z) c 0) = double.word (sgW double z) (rung double c 0) := nearest_eq ..
  rw [hen]
  refine bd_word double _ (by decide) (by decide) ?_
  refine bd_rung double (q := double.leastPlace) (by decide) (Int.le_refl _) (by decide) (by decide) ?_
  have e0 : ((0 : Int) - double.leastPlace).toNat = oneE := by decide
  rw [e0, Nat.pow_add]
  simp only [Int.sub_self, Int.toNat_zero, Nat.pow_zero, Nat.mul_one]
  exact Nat.mul_le_mul_right _ (by omega)
end
section
theorem no_less {u Z : Nat} (h : 1 ≤ u) (hl : u * Z < Z) : False := Nat.not_lt.2 (Nat.le_mul_of_pos_left Z h) hl
theorem widen_range {x v : Nat} (h : finW single x) (hp : (FloatKind.f32.format.order x 0 == some .lt || FloatKind.f32.format.order x 0 == some .eq) = false) (hv : floatToFloatBits .f32 x .f64 = some v) : 874 * stepW ≤ v ∧ v < 1151 * stepW := by
  obtain ⟨r, h1, h2, h3⟩ := widen_fin h
  have ho : FloatKind.f32.format.order x 0 = some (compare (valW single x) (valW single 0)) := order_fin single h (finW_zero .f32)
  have hv0 : valW single 0 = 0 := by decide +kernel
  have hpos : 0 < valW single x := by
    rw [ho, hv0] at hp
    simp only [compare, compareOfLessAndEq] at hp
    by_cases c : valW single x < 0
    · simp [c] at hp
    · by_cases c2 : valW single x = 0
      · simp [c2] at hp
      · omega
  have hs : sgW single x = false := by
    cases e : sgW single x
    · rfl
    · unfold valW at hpos; rw [e] at hpos; simp at hpos; omega
  have hu : 1 ≤ unitsR single (rgW single x) := by
    unfold valW at hpos; rw [hs] at hpos; simp only [Bool.false_eq_true, if_false] at hpos; omega
  rw [hv] at h1
  injection h1 with h1
  rw [hs] at h1
  have e : v = r := h1
  subst e
  have hup : unitsR single (rgW single x) < unitsR single single.infRung := units_lt single h (Nat.le_refl _)
  have a : unitsR double (874 * stepW) = 2 ^ 925 := by decide +kernel
  have b : unitsR double (1151 * stepW) = unitsR single single.infRung * 2 ^ 925 := by decide +kernel
  have hi : double.infRung = 2047 * stepW := infD
  have hb1 : 874 * stepW ≤ double.infRung := by rw [hi]; exact Nat.mul_le_mul_right _ (by omega)
  have hb2 : 1151 * stepW ≤ double.infRung := by rw [hi]; exact Nat.mul_le_mul_right _ (by omega)
  constructor
  · have q := units_lt_iff double (r := v) (s := 874 * stepW) (Nat.le_of_lt h2) hb1
    refine Nat.le_of_not_lt fun hlt => ?_
    have := q.2 hlt
    rw [h3, a] at this
    exact no_less hu this
  · have q := units_lt_iff double (r := v) (s := 1151 * stepW) (Nat.le_of_lt h2) hb2
    refine q.1 ?_
    rw [h3, b]
    have hZ := Nat.two_pow_pos 925
    generalize 2 ^ 925 = Z at *
    exact Nat.mul_lt_mul_of_pos_right hup hZ

def wordOf : Value → Nat
  | .float _ b => b
  | _ => 0
theorem self_eq {v : Nat} (h : finW double v) : (FloatKind.f64.format.order v v != some .eq) = false := by
  have ho : FloatKind.f64.format.order v v = some (compare (valW double v) (valW double v)) := order_fin double h h
  rw [ho]; simp [compare, compareOfLessAndEq]
theorem pos_tests {v : Nat} (h1 : 874 * stepW ≤ v) (h2 : v < 1151 * stepW) : (FloatKind.f64.format.order v 0 == some .lt) = false ∧ (FloatKind.f64.format.order v 0 == some .eq) = false ∧ (FloatKind.f64.format.order v 9218868437227405311 == some .gt) = false ∧ finW double v := by
  simp only [stepL] at h1 h2
  have hi : double.infRung = 9218868437227405312 := rfl
  have hx : v < double.infRung := by omega
  have o1 : FloatKind.f64.format.order v 0 = some (compare v 0) := order_word_fin double hx (by decide)
  have o2 : FloatKind.f64.format.order v 9218868437227405311 = some (compare v 9218868437227405311) := order_word_fin double hx (by decide)
  rw [o1, o2]
  simp only [compare, compareOfLessAndEq]
  refine ⟨?_, ?_, ?_, fin_pos hx⟩
  · have : ¬ v = 0 := by omega
    simp [this]
  · have : ¬ v = 0 := by omega
    simp [this]
  · have : v < 9218868437227405311 := by omega
    simp [this]
/-- A round of halving, of doubling. -/
theorem half_step {y : Nat} (h1 : c15 ≤ y) (h2 : y < double.infRung) : floatBits .quo .f64 y 4611686018427387904 = some (y - stepW) := by
  have e : floatBits .quo .f64 y 4611686018427387904 = double.div y 4611686018427387904 := rfl
  have hs : 2 * stepW ≤ y := by rw [c15L] at h1; rw [stepL]; omega
  have := half_word (w := y - stepW) (by omega) (by omega)
  rw [e]; rwa [show y - stepW + stepW = y by omega] at this
theorem double_step {y : Nat} (h1 : stepW ≤ y) (h2 : y < c75) : floatBits .mul .f64 y 4611686018427387904 = some (y + stepW) := by
  have e : floatBits .mul .f64 y 4611686018427387904 = double.mul y 4611686018427387904 := rfl
  have hi : double.infRung = 9218868437227405312 := rfl
  rw [e]
  exact double_word h1 (by rw [c75L] at h2; rw [stepL, hi]; omega)
theorem z_is {v l a z : Nat} (h1 : 874 * stepW ≤ v) (h2 : v < 1151 * stepW) (hl : Hid (nz .f64 l = logV (normX v) (normE v))) (ha : Hid (nz .f64 a = fop .mul .f64 l 4631308968768463603)) (hz : Hid (nz .f64 z = fop .add .f64 a 4602678819172646912)) : z = zV (logV (normX v) (normE v)) := by
  obtain ⟨a1, a2, a3, a4⟩ := norm_range h1 h2
  have hb := zV_bd a1 a2 ⟨a3, a4⟩
  exact eq_of_nz (z_end hl ha hz).out (nanB_fin (k := .f64) hb.1)
theorem ten_bd {v : Nat} (h1 : 874 * stepW ≤ v) (h2 : v < 1151 * stepW) : finW double (zV (logV (normX v) (normE v))) ∧ bdW double (floorW (zV (logV (normX v) (normE v)))) (52 + oneE) := by
  obtain ⟨a1, a2, a3, a4⟩ := norm_range h1 h2
  have hb := zV_bd a1 a2 ⟨a3, a4⟩
  exact ⟨hb.1, floor_bd hb⟩
end
end Go.Proofs.Ytocclddnaaaohaa.Fl
