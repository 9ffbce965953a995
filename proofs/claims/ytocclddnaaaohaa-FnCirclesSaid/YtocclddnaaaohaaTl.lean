/- Tenths of decibels of two numbers' product: the plain law. No program. No condition. -/
import Derived.Test.YtocclddnaaaohaaKd
import Derived.Test.YtocclddnaaaohaaTen
namespace Go.Proofs.Ytocclddnaaaohaa
open Go Ieee Go.Proofs.Ytocclddnaaaohaa.Fl

theorem rs_small (fb inf n t : Nat) (h : n.log2 ≤ fb) : rs fb inf n t = min ((n.log2 + t - fb) * 2 ^ fb + n * 2 ^ (fb - n.log2)) inf := by
  unfold rs
  simp only [frc_eq]
  rw [ble_dec n.log2 fb, decide_eq_true h, cond_true]
  exact min_form _ _
theorem log_small {n : Nat} (h1 : 1 ≤ n) (h2 : n ≤ 40000) : n.log2 ≤ 15 := by
  have : n.log2 < 16 := (Nat.log2_lt (by omega)).2 (by have : (2 : Nat) ^ 16 = 65536 := by decide
                                                       omega)
  omega
theorem mant_lt {n fb : Nat} (h : n.log2 ≤ fb) : n * 2 ^ (fb - n.log2) < 2 * 2 ^ fb := by
  have h1 : n < 2 ^ (n.log2 + 1) := Nat.lt_log2_self
  have h2 : n * 2 ^ (fb - n.log2) < 2 ^ (n.log2 + 1) * 2 ^ (fb - n.log2) := (Nat.mul_lt_mul_right (Nat.two_pow_pos _)).2 h1
  rw [← Nat.pow_add, show n.log2 + 1 + (fb - n.log2) = fb + 1 by omega, Nat.pow_succ] at h2
  omega
theorem W32_lt {n : Nat} (h1 : 1 ≤ n) (h2 : n ≤ 40000) : 0 < W32 n ∧ W32 n < 2139095040 := by
  have hl := log_small h1 h2
  have hm := mant_lt (n := n) (fb := 23) (by omega)
  have hp : 0 < n * 2 ^ (23 - n.log2) := Nat.mul_pos h1 (Nat.two_pow_pos _)
  have e23 : (2 : Nat) ^ 23 = 8388608 := by decide
  unfold W32
  rw [rs_small 23 _ n 143 (by omega)]
  rw [e23] at hm ⊢
  generalize n * 2 ^ (23 - n.log2) = M at *
  have : (n.log2 + 143 - 23) * 8388608 ≤ 135 * 8388608 := Nat.mul_le_mul_right _ (by omega)
  omega
theorem W64_lt {n : Nat} (h1 : 1 ≤ n) (h2 : n ≤ 40000) : W64 n < 9218868437227405312 := by
  have hl := log_small h1 h2
  have hm := mant_lt (n := n) (fb := 52) (by omega)
  have e52 : (2 : Nat) ^ 52 = 4503599627370496 := by decide
  unfold W64
  rw [rs_small 52 _ n 1068 (by omega)]
  rw [e52] at hm ⊢
  generalize n * 2 ^ (52 - n.log2) = M at *
  have : (n.log2 + 1068 - 52) * 4503599627370496 ≤ 1031 * 4503599627370496 := Nat.mul_le_mul_right _ (by omega)
  omega
theorem W32_rung {n : Nat} (h1 : 1 ≤ n) : rung single (n * 2 ^ 143) single.leastPlace = W32 n :=
  rs_eq single n 143 (by omega) (by show 23 ≤ _; omega)
theorem W64_rung {n T : Nat} (hT : T = 1068) (h1 : 1 ≤ n) : rung double (n * 2 ^ T) double.leastPlace = W64 n := by
  subst hT
  exact rs_eq double n 1068 (by omega) (by show 52 ≤ _; omega)
theorem W32_word {n : Nat} (h1 : 1 ≤ n) (h2 : n ≤ 40000) : sgW single (W32 n) = false ∧ rgW single (W32 n) = W32 n := by
  have h := (W32_lt h1 h2).2
  have e : single.word false (W32 n) = W32 n := rfl
  have hs : W32 n < single.signWeight := Nat.lt_trans h (by decide)
  constructor
  · rw [← e]; exact sgW_word single false hs
  · conv => lhs; rw [← e]
    exact rgW_word single false hs
theorem W32_units {n : Nat} (h1 : 1 ≤ n) (h2 : n ≤ 40000) : unitsR single (W32 n) = n * 2 ^ 143 := by
  have hr := W32_rung h1
  unfold rung at hr
  have hi : single.infRung = 2139095040 := rfl
  have hlt := (W32_lt h1 h2).2
  have e0 : rung0 single (n * 2 ^ 143) single.leastPlace = W32 n := by rw [hi] at hr; omega
  have e1 := rung0_scale single n (single.leastPlace + 143) 143
  rw [show single.leastPlace + 143 - ((143 : Nat) : Int) = single.leastPlace by omega] at e1
  rw [← e0, e1]
  have := units_rung0 single (mag := n) (place := single.leastPlace + 143) (by show n < 2 ^ 24; omega) (by omega)
  rw [this, show (single.leastPlace + 143 - single.leastPlace).toNat = 143 by omega]
theorem W32_fin {n : Nat} (h1 : 1 ≤ n) (h2 : n ≤ 40000) : finW single (W32 n) := by
  unfold finW
  rw [(W32_word h1 h2).2]
  exact (W32_lt h1 h2).2
theorem W32_up {n : Nat} (h1 : 1 ≤ n) (h2 : n ≤ 40000) : fcv .f32 .f64 (W32 n) = W64 n := by
  have hf := W32_fin h1 h2
  have hb : FloatKind.f32.decode (W32 n) = .number (sgW single (W32 n)) (mgR single (rgW single (W32 n))) (single.leastPlace + exR single (rgW single (W32 n))) := read_fin single hf
  rw [(W32_word h1 h2).1, (W32_word h1 h2).2] at hb
  have hu : mgR single (W32 n) * 2 ^ exR single (W32 n) = n * 2 ^ 143 := W32_units h1 h2
  obtain ⟨D, hD⟩ : ∃ D : Nat, D = 925 := ⟨_, rfl⟩
  obtain ⟨T, hT⟩ : ∃ T : Nat, T = 1068 := ⟨_, rfl⟩
  have hl1 : single.leastPlace = -149 := by decide
  have hl2 : double.leastPlace = -1074 := by decide
  have er : rung double (mgR single (W32 n)) (single.leastPlace + exR single (W32 n)) = W64 n := by
    have s1 := rung_scale double (mgR single (W32 n)) (single.leastPlace + exR single (W32 n)) (exR single (W32 n) + D)
    rw [← s1, show single.leastPlace + (exR single (W32 n) : Int) - ((exR single (W32 n) + D : Nat) : Int) = double.leastPlace by rw [hl1, hl2]; omega, Nat.pow_add, ← Nat.mul_assoc, hu, Nat.mul_assoc, ← Nat.pow_add, show 143 + D = T by omega]
    exact W64_rung hT h1
  have enc : FloatKind.f64.encode (.number false (mgR single (W32 n)) (single.leastPlace + exR single (W32 n))) = W64 n := by
    show double.nearest false _ _ = _
    rw [nearest_eq, er]; rfl
  have hfin : finW double (W64 n) := by
    show W64 n % 9223372036854775808 < 9218868437227405312
    have := W64_lt h1 h2
    omega
  unfold fcv floatToFloatBits
  rw [if_neg (by decide), hb]
  simp only [enc]
  have hd : FloatKind.f64.decode (W64 n) = _ := read_fin double hfin
  rw [hd]
  rfl
theorem W32_pos {n : Nat} (h1 : 1 ≤ n) (h2 : n ≤ 40000) : leqB (W32 n) = false := by
  obtain ⟨h3, h4⟩ := W32_lt h1 h2
  have ho : FloatKind.f32.format.order (W32 n) 0 = some (compare (W32 n) 0) := order_word_fin single h4 (by decide)
  unfold leqB
  rw [ho]
  have hc : compare (W32 n) 0 = .gt := by
    simp only [compare, compareOfLessAndEq]
    rw [if_neg (by omega), if_neg (by omega)]
  rw [hc]; rfl
theorem br_of {n k : Nat} (h : Br n k = true) : 1 ≤ k ∧ k ≤ 1000 ∧ 10 ^ (2 * k - 1) * P64 ≤ n ^ 200 * Q10 ∧ n ^ 200 * Q10 < 10 ^ (2 * k + 1) * P64 := by
  unfold Br at h
  rw [ble_dec, ble_dec, ble_dec, ble_dec] at h
  simp only [Bool.and_eq_true, decide_eq_true_eq] at h
  exact ⟨h.1, h.2.1, h.2.2.1, h.2.2.2⟩
/-- What TenthsOf gives of n / 64. -/
theorem tens_of {n : Nat} (h1 : 1 ≤ n) (h2 : n ≤ 40000) (hc : chk n = true) : ∃ k : Nat, tensI (W32 n) = (k : Int) - 200 ∧ tensB (W32 n) = true ∧ 1 ≤ k ∧ k ≤ 1000 ∧ 10 ^ (2 * k - 1) * P64 ≤ n ^ 200 * Q10 ∧ n ^ 200 * Q10 < 10 ^ (2 * k + 1) * P64 := by
  unfold chk at hc
  simp only [frc_eq] at hc
  obtain ⟨b1, b2, b3, b4⟩ := br_of hc
  obtain ⟨ht, hb⟩ := tens_at (decide_eq_true (W32_fin h1 h2)) (W32_pos h1 h2) (W32_up h1 h2)
  rw [zN_eq] at ht
  refine ⟨tK (zN (W64 n)), ?_, hb, b1, b2, b3, b4⟩
  rw [ht]
  unfold tK at b1 ⊢
  omega
theorem pow_lt_of {a b : Nat} (h : (10 : Nat) ^ a < 10 ^ b) : a < b := (Nat.pow_lt_pow_iff_right (by decide)).1 h
/-- The law: of a product the tenths are those of both, but for one. -/
theorem tens_raw {X Y Z P q t1 t2 t3 : Nat} (hP0 : 0 < P) (hq : q = 400) (e : X * Y = P * Z) (g1 : 1 ≤ t1) (g2 : 1 ≤ t2) (g3 : 1 ≤ t3)
    (a1 : 10 ^ (2 * t1 - 1) * P ≤ X * 10 ^ q) (a2 : X * 10 ^ q < 10 ^ (2 * t1 + 1) * P)
    (b1 : 10 ^ (2 * t2 - 1) * P ≤ Y * 10 ^ q) (b2 : Y * 10 ^ q < 10 ^ (2 * t2 + 1) * P)
    (c1 : 10 ^ (2 * t3 - 1) * P ≤ Z * 10 ^ q) (c2 : Z * 10 ^ q < 10 ^ (2 * t3 + 1) * P) :
    t1 + t2 ≤ t3 + 201 ∧ t3 + 200 ≤ t1 + t2 + 1 := by
  have m1 := Nat.mul_le_mul a1 b1
  have m2 := Nat.mul_lt_mul'' a2 b2
  have ek : X * 10 ^ q * (Y * 10 ^ q) = P * (10 ^ q * (Z * 10 ^ q)) := by
    rw [show X * 10 ^ q * (Y * 10 ^ q) = (X * Y) * (10 ^ q * 10 ^ q) by ac_rfl, e]; ac_rfl
  rw [ek] at m1 m2
  have hq0 : 0 < 10 ^ q := Nat.pow_pos (by decide)
  constructor
  · have h1 : P * (10 ^ q * (Z * 10 ^ q)) < P * (10 ^ q * (10 ^ (2 * t3 + 1) * P)) :=
      (Nat.mul_lt_mul_left hP0).2 ((Nat.mul_lt_mul_left hq0).2 c2)
    have h2 := Nat.lt_of_le_of_lt m1 h1
    rw [show 10 ^ (2 * t1 - 1) * P * (10 ^ (2 * t2 - 1) * P) = P * (P * (10 ^ (2 * t1 - 1) * 10 ^ (2 * t2 - 1))) by ac_rfl, show P * (10 ^ q * (10 ^ (2 * t3 + 1) * P)) = P * (P * (10 ^ q * 10 ^ (2 * t3 + 1))) by ac_rfl, ← Nat.pow_add, ← Nat.pow_add] at h2
    have h3 := pow_lt_of (Nat.lt_of_mul_lt_mul_left (Nat.lt_of_mul_lt_mul_left h2))
    omega
  · have h1 : P * (10 ^ q * (10 ^ (2 * t3 - 1) * P)) ≤ P * (10 ^ q * (Z * 10 ^ q)) :=
      Nat.mul_le_mul_left _ (Nat.mul_le_mul_left _ c1)
    have h2 := Nat.lt_of_le_of_lt h1 m2
    rw [show 10 ^ (2 * t1 + 1) * P * (10 ^ (2 * t2 + 1) * P) = P * (P * (10 ^ (2 * t1 + 1) * 10 ^ (2 * t2 + 1))) by ac_rfl, show P * (10 ^ q * (10 ^ (2 * t3 - 1) * P)) = P * (P * (10 ^ q * 10 ^ (2 * t3 - 1))) by ac_rfl, ← Nat.pow_add, ← Nat.pow_add] at h2
    have h3 := pow_lt_of (Nat.lt_of_mul_lt_mul_left (Nat.lt_of_mul_lt_mul_left h2))
    omega
theorem q10_gen (m : Nat) (hm : m = 200) : ∃ q : Nat, q = 400 ∧ Q10 = 10 ^ q := ⟨m + m, by omega, by rw [Nat.pow_add, hm]; rfl⟩
theorem q10_pow : ∃ q : Nat, q = 400 ∧ Q10 = 10 ^ q := q10_gen _ rfl
theorem p64_pow : (64 : Nat) ^ 200 = P64 := by unfold P64; rfl
theorem tens_law {k l t1 t2 t3 : Nat} (g1 : 1 ≤ t1) (g2 : 1 ≤ t2) (g3 : 1 ≤ t3)
    (a1 : 10 ^ (2 * t1 - 1) * P64 ≤ (8 * k) ^ 200 * Q10) (a2 : (8 * k) ^ 200 * Q10 < 10 ^ (2 * t1 + 1) * P64)
    (b1 : 10 ^ (2 * t2 - 1) * P64 ≤ (8 * l) ^ 200 * Q10) (b2 : (8 * l) ^ 200 * Q10 < 10 ^ (2 * t2 + 1) * P64)
    (c1 : 10 ^ (2 * t3 - 1) * P64 ≤ (k * l) ^ 200 * Q10) (c2 : (k * l) ^ 200 * Q10 < 10 ^ (2 * t3 + 1) * P64) :
    t1 + t2 ≤ t3 + 201 ∧ t3 + 200 ≤ t1 + t2 + 1 := by
  obtain ⟨q, hq, e⟩ := q10_pow
  rw [e] at a1 a2 b1 b2 c1 c2
  refine tens_raw (P := P64) (Nat.pow_pos (by decide)) hq ?_ g1 g2 g3 a1 a2 b1 b2 c1 c2
  rw [← Nat.mul_pow, show 8 * k * (8 * l) = 64 * (k * l) by rw [show (64 : Nat) = 8 * 8 from rfl]; ac_rfl, Nat.mul_pow, p64_pow]
theorem xw_all : ∀ i : Fin 200, fop .quo .f32 (floatOfInt .f32 ((i.val : Int) + 1)) 1090519040 = W32 (8 * (i.val + 1)) := by decide +kernel
theorem fop_mul32 (x y : Nat) : fop .mul .f32 x y = (single.mul x y).getD (cnan .f32) := rfl
theorem word_false (f : Format) (r : Nat) : f.word false r = r := rfl
theorem scale_kl (k l Z : Nat) (_hZ : 2 ^ 143 = Z) (h2 : 2 ^ 149 = 64 * Z) : rung single (8 * k * Z * (8 * l * Z)) (single.leastPlace + single.leastPlace) = rung single (k * l * Z) single.leastPlace := by
  have hl : single.leastPlace = -149 := by decide
  have s := rung_scale single (k * l * Z) single.leastPlace 149
  rw [h2] at s
  rw [show single.leastPlace + single.leastPlace = single.leastPlace - ((149 : Nat) : Int) by rw [hl]; rfl, ← s, show 8 * k * Z * (8 * l * Z) = k * l * Z * (8 * 8 * Z) by ac_rfl]
theorem xw_mul {k l : Nat} (hk : 1 ≤ k) (hk2 : k ≤ 200) (hl : 1 ≤ l) (hl2 : l ≤ 200) : fop .mul .f32 (W32 (8 * k)) (W32 (8 * l)) = W32 (k * l) := by
  have a1 : 1 ≤ 8 * k := by omega
  have a2 : 8 * k ≤ 40000 := by omega
  have b1 : 1 ≤ 8 * l := by omega
  have b2 : 8 * l ≤ 40000 := by omega
  have hkl : 1 ≤ k * l := Nat.mul_pos hk hl
  have fa := W32_fin a1 a2
  have fb := W32_fin b1 b2
  obtain ⟨sa, ra⟩ := W32_word a1 a2
  obtain ⟨sb, rb⟩ := W32_word b1 b2
  have ua := W32_units a1 a2
  have ub := W32_units b1 b2
  have hr := W32_rung hkl
  generalize W32 (8 * k) = x at *
  generalize W32 (8 * l) = y at *
  generalize W32 (k * l) = z at *
  have hm := mul_fin single fa fb
  rw [sa, ra, sb, rb, ua, ub, scale_kl k l (2 ^ 143) rfl (by decide), hr] at hm
  rw [fop_mul32, hm, Option.getD_some]
  exact word_false single z
end Go.Proofs.Ytocclddnaaaohaa
