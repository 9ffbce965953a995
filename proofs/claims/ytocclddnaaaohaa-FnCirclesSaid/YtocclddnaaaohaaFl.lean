/- Words of floats: all NaNs made one; rounding is monotone and exact where it can be; the walk's laws for float operations whatever their operands. No condition. -/
import Derived.Laws.FloatBits
import Derived.Laws.ComplexArith
import Derived.Laws.ComplexQuo
import Derived.Deep.Draws
import Derived.WalkKit
import Derived.WalkLawsBesides
import Derived.Laws.BitsAllLaws
import Derived.ProofKit
namespace Go.Proofs.Ytocclddnaaaohaa.Fl
open Go Ieee Go.RowKit
section
/-- Is this word a NaN? -/
def nanB (k : FloatKind) (b : Nat) : Bool := (k.decode b).isNaN
/-- One NaN for all. -/
def cnan : FloatKind → Nat
  | .f32 => 2143289344
  | .f64 => 9221120237041090560
/-- A word, all NaNs made one. -/
def nz (k : FloatKind) (b : Nat) : Nat := if nanB k b then cnan k else b
/-- The operation on words, all NaNs made one. -/
def fop (op : BinOp) (k : FloatKind) (x y : Nat) : Nat := (floatBits op k x y).getD (cnan k)

theorem nanB_cnan (k : FloatKind) : nanB k (cnan k) = true := by cases k <;> decide +kernel
theorem nz_nan {k : FloatKind} {b : Nat} (h : nanB k b = true) : nz k b = cnan k := by simp [nz, h]
theorem nz_num {k : FloatKind} {b : Nat} (h : nanB k b = false) : nz k b = b := by simp [nz, h]
theorem nanB_nz (k : FloatKind) (b : Nat) : nanB k (nz k b) = nanB k b := by
  unfold nz; split
  · rename_i h; rw [h, nanB_cnan]
  · rfl
theorem nz_nz (k : FloatKind) (b : Nat) : nz k (nz k b) = nz k b := by
  cases h : nanB k b
  · rw [nz_num h, nz_num h]
  · rw [nz_nan h, nz_nan (nanB_cnan k)]
theorem nz_cases (k : FloatKind) (b : Nat) : (nanB k b = true ∧ nz k b = cnan k) ∨ (nanB k b = false ∧ nz k b = b) := by
  cases h : nanB k b
  · exact .inr ⟨rfl, nz_num h⟩
  · exact .inl ⟨rfl, nz_nan h⟩

theorem decode_nan {k : FloatKind} {b : Nat} (h : nanB k b = true) : ∃ s t, k.format.read b = .nan s t := by
  unfold nanB FloatKind.decode Ieee.Datum.isNaN at h
  cases hd : k.format.read b <;> simp [hd] at h
  exact ⟨_, _, rfl⟩

theorem sum_nan_left {d e : Ieee.Datum} (h : d.isNaN = true) : d.sum e = none := by
  cases d <;> simp_all [Ieee.Datum.isNaN, Ieee.Datum.sum]
theorem sum_nan_right {d e : Ieee.Datum} (h : e.isNaN = true) : d.sum e = none := by
  cases e <;> simp_all [Ieee.Datum.isNaN]
  cases d <;> simp [Ieee.Datum.sum]
theorem product_nan_left {d e : Ieee.Datum} (h : d.isNaN = true) : d.product e = none := by
  cases d <;> simp_all [Ieee.Datum.isNaN, Ieee.Datum.product]
theorem product_nan_right {d e : Ieee.Datum} (h : e.isNaN = true) : d.product e = none := by
  cases e <;> simp_all [Ieee.Datum.isNaN]
  cases d <;> simp [Ieee.Datum.product]
theorem quotient_nan_left {n : Nat} {d e : Ieee.Datum} (h : d.isNaN = true) : d.quotient n e = none := by
  cases d <;> simp_all [Ieee.Datum.isNaN, Ieee.Datum.quotient]
theorem quotient_nan_right {n : Nat} {d e : Ieee.Datum} (h : e.isNaN = true) : d.quotient n e = none := by
  cases e <;> simp_all [Ieee.Datum.isNaN]
  cases d <;> simp [Ieee.Datum.quotient]
theorem order_nan_left {d e : Ieee.Datum} (h : d.isNaN = true) : d.order e = none := by
  cases d <;> simp_all [Ieee.Datum.isNaN, Ieee.Datum.order]
theorem order_nan_right {d e : Ieee.Datum} (h : e.isNaN = true) : d.order e = none := by
  cases e <;> simp_all [Ieee.Datum.isNaN]
  cases d <;> simp [Ieee.Datum.order]
theorem opposite_isNaN (d : Ieee.Datum) : d.opposite.isNaN = d.isNaN := by cases d <;> rfl

theorem bits_nan_left (op : BinOp) {k : FloatKind} {x : Nat} (y : Nat) (h : nanB k x = true) : floatBits op k x y = none := by
  have h' : (k.format.read x).isNaN = true := h
  cases op <;> simp only [floatBits, Ieee.Format.add, Ieee.Format.sub, Ieee.Format.mul, Ieee.Format.div]
  · rw [sum_nan_left h']; rfl
  · rw [sum_nan_left h']; rfl
  · rw [product_nan_left h']; rfl
  · rw [quotient_nan_left h']; rfl
theorem bits_nan_right (op : BinOp) {k : FloatKind} (x : Nat) {y : Nat} (h : nanB k y = true) : floatBits op k x y = none := by
  have h' : (k.format.read y).isNaN = true := h
  have h2 : (k.format.read y).opposite.isNaN = true := by rw [opposite_isNaN]; exact h'
  cases op <;> simp only [floatBits, Ieee.Format.add, Ieee.Format.sub, Ieee.Format.mul, Ieee.Format.div]
  · rw [sum_nan_right h']; rfl
  · rw [sum_nan_right h2]; rfl
  · rw [product_nan_right h']; rfl
  · rw [quotient_nan_right h']; rfl

theorem bits_nz_left (op : BinOp) (k : FloatKind) (x y : Nat) : floatBits op k (nz k x) y = floatBits op k x y := by
  rcases nz_cases k x with ⟨h, e⟩ | ⟨_, e⟩
  · rw [e, bits_nan_left op y h, bits_nan_left op y (nanB_cnan k)]
  · rw [e]
theorem bits_nz_right (op : BinOp) (k : FloatKind) (x y : Nat) : floatBits op k x (nz k y) = floatBits op k x y := by
  rcases nz_cases k y with ⟨h, e⟩ | ⟨_, e⟩
  · rw [e, bits_nan_right op x h, bits_nan_right op x (nanB_cnan k)]
  · rw [e]
theorem fop_nz_left (op : BinOp) (k : FloatKind) (x y : Nat) : fop op k (nz k x) y = fop op k x y := by unfold fop; rw [bits_nz_left]
theorem fop_nz_right (op : BinOp) (k : FloatKind) (x y : Nat) : fop op k x (nz k y) = fop op k x y := by unfold fop; rw [bits_nz_right]
theorem order_nz_left (k : FloatKind) (x y : Nat) : k.format.order (nz k x) y = k.format.order x y := by
  rcases nz_cases k x with ⟨h, e⟩ | ⟨_, e⟩
  · rw [e]
    have h1 : (k.format.read x).isNaN = true := h
    have h2 : (k.format.read (cnan k)).isNaN = true := nanB_cnan k
    simp only [Ieee.Format.order, order_nan_left h1, order_nan_left h2]
  · rw [e]
theorem order_nz_right (k : FloatKind) (x y : Nat) : k.format.order x (nz k y) = k.format.order x y := by
  rcases nz_cases k y with ⟨h, e⟩ | ⟨_, e⟩
  · rw [e]
    have h1 : (k.format.read y).isNaN = true := h
    have h2 : (k.format.read (cnan k)).isNaN = true := nanB_cnan k
    simp only [Ieee.Format.order, order_nan_right h1, order_nan_right h2]
  · rw [e]
end
section
/-- 'n / g' to the nearest, between two the even one. -/
def cutE (n g : Nat) : Nat := n / g + (decide (g < 2 * (n % g)) || (g == 2 * (n % g) && (n / g) % 2 == 1)).toNat

theorem cutE_ge (n g : Nat) : n / g ≤ cutE n g := by unfold cutE; omega
theorem cutE_le (n g : Nat) : cutE n g ≤ n / g + 1 := by
  unfold cutE
  cases (decide (g < 2 * (n % g)) || (g == 2 * (n % g) && (n / g) % 2 == 1)) <;> simp
theorem cutE_mono {m n : Nat} (g : Nat) (h : m ≤ n) : cutE m g ≤ cutE n g := by
  have hq : m / g ≤ n / g := Nat.div_le_div_right h
  by_cases hlt : m / g < n / g
  · have := cutE_le m g; have := cutE_ge n g; omega
  · have e : m / g = n / g := by omega
    have hm := Nat.div_add_mod m g
    have hn := Nat.div_add_mod n g
    rw [e] at hm
    have hr : m % g ≤ n % g := by omega
    unfold cutE
    rw [e]
    by_cases h1 : g < 2 * (m % g)
    · have h2 : g < 2 * (n % g) := by omega
      simp [h1, h2]
    · by_cases h3 : g = 2 * (m % g)
      · by_cases h4 : g < 2 * (n % g)
        · simp [h4]; cases (decide (g < 2 * (m % g)) || (g == 2 * (m % g) && (n / g) % 2 == 1)) <;> simp
        · have h5 : n % g = m % g := by omega
          rw [h5]; exact Nat.le_refl _
      · have : (decide (g < 2 * (m % g)) || (g == 2 * (m % g) && (n / g) % 2 == 1)) = false := by simp [h1, h3]
        rw [this]; simp
theorem cutE_exact (n g : Nat) (hg : 0 < g) : cutE (n * g) g = n := by
  unfold cutE
  rw [Nat.mul_mod_left, Nat.mul_div_cancel _ hg]
  have : ¬ g = 0 := by omega
  simp [this]
theorem cutE_scale (n g k : Nat) (hk : 0 < k) : cutE (n * k) (g * k) = cutE n g := by
  unfold cutE
  rw [Nat.mul_div_mul_right _ _ hk, Nat.mul_mod_mul_right]
  have e : 2 * (n % g * k) = (2 * (n % g)) * k := by rw [Nat.mul_assoc]
  rw [e]
  have a : decide (g * k < 2 * (n % g) * k) = decide (g < 2 * (n % g)) := by
    exact decide_eq_decide.2 (Nat.mul_lt_mul_right hk)
  have b : (g * k == 2 * (n % g) * k) = (g == 2 * (n % g)) := by
    rw [Bool.eq_iff_iff]; simp [Nat.mul_left_inj (by omega : k ≠ 0)]
  rw [a, b]
theorem cutE_one (n : Nat) : cutE n 1 = n := by simpa using cutE_exact n 1 (by omega)

theorem cut_eq (n drop : Nat) (neg : Bool) : Toward.even.cut neg n drop = cutE n (2 ^ drop) := by
  unfold Toward.cut
  simp only [Nat.shiftLeft_eq, Nat.one_mul]
  by_cases h : drop ≤ n.log2 + 2
  · rw [Nat.min_eq_left h]; rfl
  · rw [Nat.min_eq_right (by omega)]
    have hn : n < 2 ^ (n.log2 + 1) := Nat.lt_log2_self
    have h2 : (2 : Nat) ^ (n.log2 + 2) = 2 * 2 ^ (n.log2 + 1) := by rw [Nat.pow_succ]; omega
    have h3 : (2 : Nat) ^ (n.log2 + 3) ≤ 2 ^ drop := Nat.pow_le_pow_right (by omega) (by omega)
    have h4 : (2 : Nat) ^ (n.log2 + 3) = 4 * 2 ^ (n.log2 + 1) := by rw [Nat.pow_succ, Nat.pow_succ]; omega
    unfold cutE
    have d1 : n < 2 ^ (n.log2 + 2) := by omega
    have d2 : n < 2 ^ drop := by omega
    have a : ¬ 2 ^ (n.log2 + 2) < 2 * n := by omega
    have b : ¬ 2 ^ drop < 2 * n := by omega
    simp [Nat.div_eq_of_lt d1, Nat.mod_eq_of_lt d1, Nat.div_eq_of_lt d2, Nat.mod_eq_of_lt d2, a, b]

/-- The place of the last digit kept. -/
def lastP (f : Format) (mag : Nat) (place : Int) : Int := max (place + mag.log2 - f.fractionBits) f.leastPlace
/-- The rung before the cap at infinity. -/
def rung0 (f : Format) (mag : Nat) (place : Int) : Nat :=
  if mag = 0 then 0 else
  (lastP f mag place - f.leastPlace).toNat * f.binade + cutE (mag * 2 ^ (place - lastP f mag place).toNat) (2 ^ (lastP f mag place - place).toNat)
/-- The rung of the nearest word. -/
def rung (f : Format) (mag : Nat) (place : Int) : Nat := min (rung0 f mag place) f.infRung

theorem nearest_eq (f : Format) (neg : Bool) (mag : Nat) (place : Int) : f.nearest neg mag place = f.word neg (rung f mag place) := by
  unfold Format.nearest rung rung0
  by_cases h : mag = 0
  · simp [h]
  · simp only [h, if_false, cut_eq, Nat.shiftLeft_eq, lastP]

theorem log2_mul_pow (n k : Nat) (h : n ≠ 0) : (n * 2 ^ k).log2 = n.log2 + k := by
  have hp : 0 < 2 ^ k := Nat.two_pow_pos k
  rw [Nat.log2_eq_iff (by rw [Nat.mul_ne_zero_iff]; omega)]
  have h1 := Nat.log2_self_le h
  have h2 : n < 2 ^ (n.log2 + 1) := Nat.lt_log2_self
  constructor
  · rw [Nat.pow_add]; exact Nat.mul_le_mul_right _ h1
  · rw [show n.log2 + k + 1 = (n.log2 + 1) + k by omega, Nat.pow_add]; exact (Nat.mul_lt_mul_right hp).2 h2

/-- ONLY THE VALUE COUNTS. -/
theorem rung0_scale (f : Format) (mag : Nat) (place : Int) (k : Nat) : rung0 f (mag * 2 ^ k) (place - k) = rung0 f mag place := by
  have hp : 0 < 2 ^ k := Nat.two_pow_pos k
  unfold rung0
  by_cases h : mag = 0
  · simp [h]
  · have h' : mag * 2 ^ k ≠ 0 := by rw [Nat.mul_ne_zero_iff]; omega
    have hl : lastP f (mag * 2 ^ k) (place - k) = lastP f mag place := by
      unfold lastP; rw [log2_mul_pow _ _ h]
      congr 1; omega
    simp only [h, h', if_false, hl]
    congr 1
    generalize lastP f mag place = L
    by_cases c : L ≤ place - k
    · have e1 : (L - place).toNat = 0 := by omega
      have e2 : (L - (place - k)).toNat = 0 := by omega
      rw [e1, e2, Nat.pow_zero, cutE_one, cutE_one]
      have e3 : (place - L).toNat = k + (place - k - L).toNat := by omega
      rw [e3, Nat.pow_add, Nat.mul_assoc]
    · by_cases c2 : L ≤ place
      · have e1 : (L - place).toNat = 0 := by omega
        have e2 : (place - k - L).toNat = 0 := by omega
        rw [e1, e2, Nat.pow_zero, cutE_one, Nat.mul_one]
        have e3 : k = (place - L).toNat + (L - (place - k)).toNat := by omega
        have e4 : mag * 2 ^ k = mag * 2 ^ (place - L).toNat * 2 ^ (L - (place - k)).toNat := by rw [Nat.mul_assoc, ← Nat.pow_add, ← e3]
        rw [e4, cutE_exact _ _ (Nat.two_pow_pos _)]
      · have e1 : (place - L).toNat = 0 := by omega
        have e2 : (place - k - L).toNat = 0 := by omega
        rw [e1, e2, Nat.pow_zero, Nat.mul_one, Nat.mul_one]
        have e3 : (L - (place - k)).toNat = (L - place).toNat + k := by omega
        rw [e3, Nat.pow_add, cutE_scale _ _ _ hp]

theorem rung_scale (f : Format) (mag : Nat) (place : Int) (k : Nat) : rung f (mag * 2 ^ k) (place - k) = rung f mag place := by
  unfold rung; rw [rung0_scale]
theorem rung_scale' (f : Format) (mag : Nat) (place q : Int) (h : q ≤ place) : rung f (mag * 2 ^ (place - q).toNat) q = rung f mag place := by
  have e := rung_scale f mag place (place - q).toNat
  rw [show place - ((place - q).toNat : Int) = q by omega] at e
  exact e
end
section
theorem binade_pos (f : Format) : 0 < f.binade := Nat.two_pow_pos _

theorem rung0_zero (f : Format) (place : Int) : rung0 f 0 place = 0 := by simp [rung0]

/-- Two numbers of one place. -/
theorem rung0_mono_same (f : Format) {m n : Nat} (place : Int) (h : m ≤ n) : rung0 f m place ≤ rung0 f n place := by
  by_cases hm : m = 0
  · rw [hm, rung0_zero]; exact Nat.zero_le _
  · have hn : n ≠ 0 := by omega
    have hlog : m.log2 ≤ n.log2 := by
      have h1 := Nat.log2_self_le hm
      exact (Nat.le_log2 hn).2 (by omega)
    have hL : lastP f m place ≤ lastP f n place := by unfold lastP; omega
    unfold rung0
    simp only [hm, hn, if_false]
    by_cases he : lastP f m place = lastP f n place
    · rw [he]
      exact Nat.add_le_add_left (cutE_mono _ (Nat.mul_le_mul_right _ h)) _
    · have hlt : lastP f m place < lastP f n place := by omega
      -- the lower: at most two binades above its last place's head
      have up : cutE (m * 2 ^ (place - lastP f m place).toNat) (2 ^ (lastP f m place - place).toNat) ≤ 2 * f.binade := by
        have hl : place + m.log2 - f.fractionBits ≤ lastP f m place := by unfold lastP; omega
        have hm2 : m < 2 ^ (m.log2 + 1) := Nat.lt_log2_self
        generalize lastP f m place = L at *
        have hb : 2 * f.binade = 2 ^ (f.fractionBits + 1) := by unfold Format.binade; rw [Nat.pow_succ]; omega
        rw [hb]
        by_cases c : L ≤ place
        · have e1 : (L - place).toNat = 0 := by omega
          rw [e1, Nat.pow_zero, cutE_one]
          have : m * 2 ^ (place - L).toNat ≤ 2 ^ (m.log2 + 1) * 2 ^ (place - L).toNat := Nat.mul_le_mul_right _ (by omega)
          rw [← Nat.pow_add] at this
          exact Nat.le_trans this (Nat.pow_le_pow_right (by omega) (by omega))
        · have e1 : (place - L).toNat = 0 := by omega
          rw [e1, Nat.pow_zero, Nat.mul_one]
          have hd : 2 ^ (m.log2 + 1) ≤ 2 ^ (f.fractionBits + 1) * 2 ^ (L - place).toNat := by
            rw [← Nat.pow_add]; exact Nat.pow_le_pow_right (by omega) (by omega)
          have h3 : cutE m (2 ^ (L - place).toNat) ≤ cutE (2 ^ (f.fractionBits + 1) * 2 ^ (L - place).toNat) (2 ^ (L - place).toNat) := cutE_mono _ (by omega)
          rw [cutE_exact _ _ (Nat.two_pow_pos _)] at h3
          exact h3
      have lo : f.binade ≤ cutE (n * 2 ^ (place - lastP f n place).toNat) (2 ^ (lastP f n place - place).toNat) := by
        have hl : lastP f n place = place + n.log2 - f.fractionBits := by unfold lastP at hlt ⊢; omega
        have hn1 := Nat.log2_self_le hn
        generalize lastP f n place = L at *
        unfold Format.binade
        by_cases c : L ≤ place
        · have e1 : (L - place).toNat = 0 := by omega
          rw [e1, Nat.pow_zero, cutE_one]
          have : 2 ^ n.log2 * 2 ^ (place - L).toNat ≤ n * 2 ^ (place - L).toNat := Nat.mul_le_mul_right _ hn1
          rw [← Nat.pow_add] at this
          exact Nat.le_trans (Nat.pow_le_pow_right (by omega) (by omega)) this
        · have e1 : (place - L).toNat = 0 := by omega
          rw [e1, Nat.pow_zero, Nat.mul_one]
          have hd : 2 ^ f.fractionBits * 2 ^ (L - place).toNat ≤ 2 ^ n.log2 := by
            rw [← Nat.pow_add]; exact Nat.pow_le_pow_right (by omega) (by omega)
          have h3 : cutE (2 ^ f.fractionBits * 2 ^ (L - place).toNat) (2 ^ (L - place).toNat) ≤ cutE n (2 ^ (L - place).toNat) := cutE_mono _ (by omega)
          rw [cutE_exact _ _ (Nat.two_pow_pos _)] at h3
          exact h3
      have hge : f.leastPlace ≤ lastP f m place := by unfold lastP; omega
      have hs : (lastP f m place - f.leastPlace).toNat + 1 ≤ (lastP f n place - f.leastPlace).toNat := by omega
      have hmul : ((lastP f m place - f.leastPlace).toNat + 1) * f.binade ≤ (lastP f n place - f.leastPlace).toNat * f.binade := Nat.mul_le_mul_right _ hs
      rw [Nat.add_mul, Nat.one_mul] at hmul
      omega

/-- ROUNDING KEEPS THE ORDER. 'm * 2^p ≤ n * 2^q', said at a common place below both. -/
theorem rung0_mono (f : Format) (m n : Nat) (p q r : Int) (hp : r ≤ p) (hq : r ≤ q) (h : m * 2 ^ (p - r).toNat ≤ n * 2 ^ (q - r).toNat) : rung0 f m p ≤ rung0 f n q := by
  have e1 : rung0 f (m * 2 ^ (p - r).toNat) (p - (p - r).toNat) = rung0 f m p := rung0_scale ..
  have e2 : rung0 f (n * 2 ^ (q - r).toNat) (q - (q - r).toNat) = rung0 f n q := rung0_scale ..
  rw [show p - ((p - r).toNat : Int) = r by omega] at e1
  rw [show q - ((q - r).toNat : Int) = r by omega] at e2
  rw [← e1, ← e2]
  exact rung0_mono_same f r h
theorem rung_mono (f : Format) (m n : Nat) (p q r : Int) (hp : r ≤ p) (hq : r ≤ q) (h : m * 2 ^ (p - r).toNat ≤ n * 2 ^ (q - r).toNat) : rung f m p ≤ rung f n q := by
  have := rung0_mono f m n p q r hp hq h
  unfold rung; omega

/-- The magnitude of a rung, and its place above the least. -/
def mgR (f : Format) (r : Nat) : Nat := if r < f.binade then r else f.binade + r % f.binade
def exR (f : Format) (r : Nat) : Nat := if r < f.binade then 0 else r / f.binade - 1
/-- A rung's value, in units of the least place. -/
def unitsR (f : Format) (r : Nat) : Nat := mgR f r * 2 ^ exR f r

theorem log2_lt_of_lt (n k : Nat) (h0 : n ≠ 0) (h : n < 2 ^ k) : n.log2 < k := (Nat.log2_lt h0).2 h

/-- A RUNG IS ITS OWN NEAREST. -/
theorem rung0_self (f : Format) (r : Nat) : rung0 f (mgR f r) (f.leastPlace + exR f r) = r := by
  unfold mgR exR
  by_cases h : r < f.binade
  · simp only [h, if_true]
    by_cases h0 : r = 0
    · rw [h0, rung0_zero]
    · have hl : r.log2 < f.fractionBits := log2_lt_of_lt _ _ h0 h
      have hL : lastP f r (f.leastPlace + (0 : Nat)) = f.leastPlace := by unfold lastP; omega
      unfold rung0
      rw [if_neg h0, hL]
      simp [cutE_one]
  · simp only [h, if_false]
    have hb := binade_pos f
    have hd : 1 ≤ r / f.binade := (Nat.le_div_iff_mul_le hb).2 (by omega)
    have hmod := Nat.mod_lt r hb
    have hn0 : f.binade + r % f.binade ≠ 0 := by omega
    have hlog : (f.binade + r % f.binade).log2 = f.fractionBits := by
      rw [Nat.log2_eq_iff hn0]
      constructor
      · show f.binade ≤ _; omega
      · rw [Nat.pow_succ]; show _ < f.binade * 2; omega
    have hL : lastP f (f.binade + r % f.binade) (f.leastPlace + ((r / f.binade - 1 : Nat) : Int)) = f.leastPlace + ((r / f.binade - 1 : Nat) : Int) := by
      unfold lastP; rw [hlog]; omega
    unfold rung0
    rw [if_neg hn0, hL]
    simp only [Int.sub_self, Int.toNat_zero, Nat.pow_zero, Nat.mul_one, cutE_one]
    have e : (f.leastPlace + ((r / f.binade - 1 : Nat) : Int) - f.leastPlace).toNat = r / f.binade - 1 := by omega
    rw [e]
    have hdm := Nat.div_add_mod r f.binade
    have e3 : (r / f.binade - 1) * f.binade + f.binade = r / f.binade * f.binade := by
      rw [← Nat.succ_mul]; congr 1; omega
    rw [Nat.mul_comm (f.binade) (r / f.binade)] at hdm
    omega

theorem rung_self (f : Format) {r : Nat} (h : r ≤ f.infRung) : rung f (mgR f r) (f.leastPlace + exR f r) = r := by
  unfold rung; rw [rung0_self]; omega

theorem rung_units (f : Format) {r : Nat} (h : r ≤ f.infRung) : rung f (unitsR f r) f.leastPlace = r := by
  have e := rung_scale f (mgR f r) (f.leastPlace + exR f r) (exR f r)
  rw [rung_self f h] at e
  rw [show f.leastPlace + (exR f r : Int) - (exR f r : Int) = f.leastPlace by omega] at e
  exact e

/-- A number that is at most a rung's is rounded to at most that rung. -/
theorem rung_le_of_le (f : Format) (m : Nat) (p q : Int) (r : Nat) (hr : r ≤ f.infRung) (hp : q ≤ p) (hq : q ≤ f.leastPlace) (h : m * 2 ^ (p - q).toNat ≤ unitsR f r * 2 ^ (f.leastPlace - q).toNat) : rung f m p ≤ r := by
  have := rung_mono f m (unitsR f r) p f.leastPlace q hp hq h
  rwa [rung_units f hr] at this
theorem le_rung_of_le (f : Format) (m : Nat) (p q : Int) (r : Nat) (hr : r ≤ f.infRung) (hp : q ≤ p) (hq : q ≤ f.leastPlace) (h : unitsR f r * 2 ^ (f.leastPlace - q).toNat ≤ m * 2 ^ (p - q).toNat) : r ≤ rung f m p := by
  have := rung_mono f (unitsR f r) m f.leastPlace p q hq hp h
  rwa [rung_units f hr] at this

/-- Rungs and their values stand alike. -/
theorem units_lt (f : Format) {r s : Nat} (h : r < s) (hs : s ≤ f.infRung) : unitsR f r < unitsR f s := by
  refine Nat.lt_of_not_le fun hle => ?_
  have := rung_le_of_le f (unitsR f s) f.leastPlace f.leastPlace r (by omega) (Int.le_refl _) (Int.le_refl _) (by simpa using hle)
  rw [rung_units f hs] at this
  omega
theorem units_lt_iff (f : Format) {r s : Nat} (hr : r ≤ f.infRung) (hs : s ≤ f.infRung) : unitsR f r < unitsR f s ↔ r < s := by
  constructor
  · intro h
    refine Nat.lt_of_not_le fun hle => ?_
    by_cases e : r = s
    · rw [e] at h; omega
    · have := units_lt f (show s < r by omega) hr; omega
  · intro h; exact units_lt f h hs
theorem units_inj (f : Format) {r s : Nat} (hr : r ≤ f.infRung) (hs : s ≤ f.infRung) (h : unitsR f r = unitsR f s) : r = s := by
  have h1 := (units_lt_iff f hr hs); have h2 := units_lt_iff f hs hr
  omega
end
section
theorem signWeight_pos (f : Format) : 0 < f.signWeight := Nat.two_pow_pos _
/-- The sign and the rung of a word. -/
def sgW (f : Format) (b : Nat) : Bool := b / f.signWeight % 2 == 1
def rgW (f : Format) (b : Nat) : Nat := b % f.signWeight

theorem rgW_word (f : Format) (neg : Bool) {r : Nat} (h : r < f.signWeight) : rgW f (f.word neg r) = r := by
  unfold rgW Format.word; cases neg
  · simp [Nat.mod_eq_of_lt h]
  · simp [Nat.mod_eq_of_lt h]
theorem sgW_word (f : Format) (neg : Bool) {r : Nat} (h : r < f.signWeight) : sgW f (f.word neg r) = neg := by
  have hp := signWeight_pos f
  unfold sgW Format.word; cases neg
  · simp [Nat.div_eq_of_lt h]
  · have : (f.signWeight + r) / f.signWeight = 1 := by
      rw [Nat.add_div_left _ hp, Nat.div_eq_of_lt h]
    simp [this]
theorem word_of (f : Format) {b : Nat} (h : b < 2 ^ f.width) : f.word (sgW f b) (rgW f b) = b := by
  have two : 2 ^ f.width = 2 * f.signWeight := by
    unfold Format.width Format.signWeight
    rw [Nat.add_assoc, Nat.add_comm 1, Nat.pow_succ, Nat.mul_comm]
  have hp := signWeight_pos f
  have hd : b / f.signWeight < 2 := (Nat.div_lt_iff_lt_mul hp).2 (by omega)
  have hdm := Nat.div_add_mod b f.signWeight
  unfold Format.word sgW rgW
  have hc : b / f.signWeight = 0 ∨ b / f.signWeight = 1 := by
    generalize b / f.signWeight = q at *
    omega
  rcases hc with e | e
  · rw [e] at hdm ⊢; simp at hdm ⊢; omega
  · rw [e] at hdm ⊢; simp at hdm ⊢; omega

theorem binade_le_inf (f : Format) (he : 1 ≤ f.exponentBits) : f.binade ≤ f.infRung := by
  unfold Format.infRung
  refine Nat.le_mul_of_pos_left _ ?_
  have : 2 ^ 1 ≤ 2 ^ f.exponentBits := Nat.pow_le_pow_right (by omega) he
  omega

/-- Is the word a number? -/
def finW (f : Format) (b : Nat) : Prop := rgW f b < f.infRung
instance (f : Format) (b : Nat) : Decidable (finW f b) := by unfold finW; infer_instance

theorem read_fin (f : Format) {b : Nat} (h : finW f b) : f.read b = .number (sgW f b) (mgR f (rgW f b)) (f.leastPlace + exR f (rgW f b)) := by
  unfold finW at h
  unfold Format.read mgR exR
  simp only [sgW, rgW] at *
  by_cases c : b % f.signWeight < f.binade
  · simp [c]
  · simp [c, h]
theorem read_inf (f : Format) (he : 1 ≤ f.exponentBits) {b : Nat} (h : rgW f b = f.infRung) : f.read b = .infinity (sgW f b) := by
  have := binade_le_inf f he
  unfold rgW at h
  unfold Format.read sgW
  rw [h]
  have c : ¬ f.infRung < f.binade := by omega
  simp [c]
theorem read_nan (f : Format) (he : 1 ≤ f.exponentBits) {b : Nat} (h : f.infRung < rgW f b) : f.read b = .nan (sgW f b) (rgW f b - f.infRung) := by
  have := binade_le_inf f he
  unfold rgW at h
  unfold Format.read sgW rgW
  have c : ¬ b % f.signWeight < f.binade := by omega
  have c2 : ¬ b % f.signWeight < f.infRung := by omega
  have c3 : ¬ b % f.signWeight = f.infRung := by omega
  simp [c, c2, c3]

/-- The value of a word, in units of the least place. -/
def valW (f : Format) (b : Nat) : Int := if sgW f b then -(unitsR f (rgW f b) : Int) else unitsR f (rgW f b)

theorem valW_abs (f : Format) (b : Nat) : (valW f b).natAbs = unitsR f (rgW f b) := by unfold valW; split <;> omega
theorem unitsR_zero (f : Format) : unitsR f 0 = 0 := by
  unfold unitsR mgR; simp [binade_pos f]
theorem signed_units (f : Format) (b : Nat) (lo : Nat) (h : lo ≤ exR f (rgW f b)) : signed (sgW f b) (mgR f (rgW f b)) (exR f (rgW f b) - lo) * (2 ^ lo : Nat) = valW f b := by
  unfold signed valW unitsR
  rw [Nat.shiftLeft_eq]
  have e : mgR f (rgW f b) * 2 ^ (exR f (rgW f b) - lo) * 2 ^ lo = mgR f (rgW f b) * 2 ^ exR f (rgW f b) := by
    rw [Nat.mul_assoc, ← Nat.pow_add]; congr 2; omega
  cases sgW f b
  · simp only [Bool.false_eq_true, if_false]
    rw [← Int.natCast_mul, e]
  · simp only [if_true]
    rw [Int.neg_mul, ← Int.natCast_mul, e]

theorem compare_scale (a b : Int) (k : Nat) (hk : 0 < k) : compare (a * k) (b * k) = compare a b := by
  have hk' : (0 : Int) < (k : Int) := by omega
  simp only [compare, compareOfLessAndEq]
  have h1 : (a * k < b * k) ↔ a < b := Int.mul_lt_mul_right hk'
  have h2 : (a * k = b * k) ↔ a = b := Int.mul_eq_mul_right_iff (by omega)
  simp only [h1, h2]

theorem order_fin (f : Format) {b c : Nat} (hb : finW f b) (hc : finW f c) : f.order b c = some (compare (valW f b) (valW f c)) := by
  unfold Format.order
  rw [read_fin f hb, read_fin f hc]
  simp only [Datum.order]
  have e1 : (f.leastPlace + (exR f (rgW f b) : Int) - min (f.leastPlace + (exR f (rgW f b) : Int)) (f.leastPlace + (exR f (rgW f c) : Int))).toNat = exR f (rgW f b) - min (exR f (rgW f b)) (exR f (rgW f c)) := by omega
  have e2 : (f.leastPlace + (exR f (rgW f c) : Int) - min (f.leastPlace + (exR f (rgW f b) : Int)) (f.leastPlace + (exR f (rgW f c) : Int))).toNat = exR f (rgW f c) - min (exR f (rgW f b)) (exR f (rgW f c)) := by omega
  rw [e1, e2, ← signed_units f b (min (exR f (rgW f b)) (exR f (rgW f c))) (by omega), ← signed_units f c (min (exR f (rgW f b)) (exR f (rgW f c))) (by omega), compare_scale _ _ _ (Nat.two_pow_pos _)]

theorem rung_units_of (f : Format) (t : Int) (lo : Nat) : rung f t.natAbs (f.leastPlace + lo) = rung f (t * (2 ^ lo : Nat)).natAbs f.leastPlace := by
  rw [Int.natAbs_mul, Int.natAbs_natCast]
  have := rung_scale f t.natAbs (f.leastPlace + lo) lo
  rw [show f.leastPlace + (lo : Int) - (lo : Int) = f.leastPlace by omega] at this
  exact this.symm

/-- A SUM: exact, rounded once. -/
theorem add_fin (f : Format) {b c : Nat} (hb : finW f b) (hc : finW f c) :
    f.add b c = some (f.word (if valW f b + valW f c = 0 then sgW f b && sgW f c else decide (valW f b + valW f c < 0)) (rung f (valW f b + valW f c).natAbs f.leastPlace)) := by
  unfold Format.add
  rw [read_fin f hb, read_fin f hc]
  simp only [Datum.sum, Option.map_some, Format.write, nearest_eq]
  have e0 : min (f.leastPlace + (exR f (rgW f b) : Int)) (f.leastPlace + (exR f (rgW f c) : Int)) = f.leastPlace + (min (exR f (rgW f b)) (exR f (rgW f c)) : Nat) := by omega
  have e1 : (f.leastPlace + (exR f (rgW f b) : Int) - (f.leastPlace + (min (exR f (rgW f b)) (exR f (rgW f c)) : Nat))).toNat = exR f (rgW f b) - min (exR f (rgW f b)) (exR f (rgW f c)) := by omega
  have e2 : (f.leastPlace + (exR f (rgW f c) : Int) - (f.leastPlace + (min (exR f (rgW f b)) (exR f (rgW f c)) : Nat))).toNat = exR f (rgW f c) - min (exR f (rgW f b)) (exR f (rgW f c)) := by omega
  rw [e0, e1, e2]
  have s1 := signed_units f b (min (exR f (rgW f b)) (exR f (rgW f c))) (by omega)
  have s2 := signed_units f c (min (exR f (rgW f b)) (exR f (rgW f c))) (by omega)
  generalize signed (sgW f b) (mgR f (rgW f b)) (exR f (rgW f b) - min (exR f (rgW f b)) (exR f (rgW f c))) = A at *
  generalize signed (sgW f c) (mgR f (rgW f c)) (exR f (rgW f c) - min (exR f (rgW f b)) (exR f (rgW f c))) = B at *
  generalize hlo : min (exR f (rgW f b)) (exR f (rgW f c)) = lo at *
  have hs : (A + B) * (2 ^ lo : Nat) = valW f b + valW f c := by rw [Int.add_mul, s1, s2]
  rw [rung_units_of f (A + B) lo, hs, ← hs]
  have hp : (0 : Int) < ((2 ^ lo : Nat) : Int) := by have := Nat.two_pow_pos lo; omega
  have z : ((A + B) * (2 ^ lo : Nat) = 0) ↔ A + B = 0 := by
    constructor
    · intro h; rcases Int.mul_eq_zero.1 h with h | h <;> omega
    · intro h; rw [h]; simp
  have n : ((A + B) * (2 ^ lo : Nat) < 0) ↔ A + B < 0 := by
    constructor
    · intro h
      refine Int.lt_of_not_ge fun hge => ?_
      have := Int.mul_nonneg hge (Int.le_of_lt hp); omega
    · intro h; exact Int.mul_neg_of_neg_of_pos h hp
  simp only [z, n]
end
section
/-- The opposite of a word. -/
def negW (f : Format) (b : Nat) : Nat := f.word (!sgW f b) (rgW f b)
theorem rgW_lt (f : Format) (b : Nat) : rgW f b < f.signWeight := Nat.mod_lt _ (signWeight_pos f)
theorem rgW_negW (f : Format) (b : Nat) : rgW f (negW f b) = rgW f b := rgW_word f _ (rgW_lt f b)
theorem sgW_negW (f : Format) (b : Nat) : sgW f (negW f b) = !sgW f b := sgW_word f _ (rgW_lt f b)
theorem valW_negW (f : Format) (b : Nat) : valW f (negW f b) = - valW f b := by
  unfold valW; rw [rgW_negW, sgW_negW]; cases sgW f b <;> simp
theorem finW_negW (f : Format) {b : Nat} (h : finW f b) : finW f (negW f b) := by unfold finW; rw [rgW_negW]; exact h
theorem read_negW (f : Format) (he : 1 ≤ f.exponentBits) (b : Nat) : f.read (negW f b) = (f.read b).opposite := by
  by_cases h : rgW f b < f.infRung
  · rw [read_fin f h, read_fin f (finW_negW f h), sgW_negW, rgW_negW]; rfl
  · by_cases h2 : rgW f b = f.infRung
    · rw [read_inf f he h2, read_inf f he (by rw [rgW_negW]; exact h2), sgW_negW]; rfl
    · rw [read_nan f he (by omega : f.infRung < rgW f b), read_nan f he (by rw [rgW_negW]; omega), sgW_negW, rgW_negW]; rfl
theorem sub_eq_add (f : Format) (he : 1 ≤ f.exponentBits) (b c : Nat) : f.sub b c = f.add b (negW f c) := by
  unfold Format.sub Format.add; rw [read_negW f he]
theorem sub_fin (f : Format) (he : 1 ≤ f.exponentBits) {b c : Nat} (hb : finW f b) (hc : finW f c) :
    f.sub b c = some (f.word (if valW f b - valW f c = 0 then sgW f b && !sgW f c else decide (valW f b - valW f c < 0)) (rung f (valW f b - valW f c).natAbs f.leastPlace)) := by
  rw [sub_eq_add f he, add_fin f hb (finW_negW f hc), valW_negW, sgW_negW]; rfl
theorem sub_self_fin (f : Format) (he : 1 ≤ f.exponentBits) {b : Nat} (hb : finW f b) : f.sub b b = some 0 := by
  rw [sub_fin f he hb hb]
  have : rung f 0 f.leastPlace = 0 := by unfold rung; rw [rung0_zero]; omega
  simp [this, Format.word]
theorem sub_self_inf (f : Format) (he : 1 ≤ f.exponentBits) {b : Nat} (hb : ¬ finW f b) : f.sub b b = none := by
  unfold Format.sub
  by_cases h2 : rgW f b = f.infRung
  · rw [read_inf f he h2]; simp [Datum.opposite, Datum.sum]
  · rw [read_nan f he (by unfold finW at hb; omega)]; simp [Datum.sum]

theorem mul_fin (f : Format) {b c : Nat} (hb : finW f b) (hc : finW f c) :
    f.mul b c = some (f.word (sgW f b ^^ sgW f c) (rung f (unitsR f (rgW f b) * unitsR f (rgW f c)) (f.leastPlace + f.leastPlace))) := by
  unfold Format.mul
  rw [read_fin f hb, read_fin f hc]
  simp only [Datum.product, Option.map_some, Format.write, nearest_eq]
  congr 2
  have := rung_scale f (mgR f (rgW f b) * mgR f (rgW f c)) (f.leastPlace + (exR f (rgW f b) : Int) + (f.leastPlace + (exR f (rgW f c) : Int))) (exR f (rgW f b) + exR f (rgW f c))
  rw [← this]
  congr 1
  · unfold unitsR; rw [Nat.pow_add]; ac_rfl
  · omega

/-- WHAT THE FORMAT HAS IS NOT ROUNDED. -/
theorem units_rung0 (f : Format) {mag : Nat} {place : Int} (hm : mag < 2 ^ (f.fractionBits + 1)) (hp : f.leastPlace ≤ place) : unitsR f (rung0 f mag place) = mag * 2 ^ (place - f.leastPlace).toNat := by
  by_cases h0 : mag = 0
  · rw [h0, rung0_zero, unitsR_zero]; simp
  · have hb := binade_pos f
    have hlog : mag.log2 < f.fractionBits + 1 := log2_lt_of_lt _ _ h0 hm
    have hLp : lastP f mag place ≤ place := by unfold lastP; omega
    have hLl : f.leastPlace ≤ lastP f mag place := by unfold lastP; omega
    have h1 := Nat.log2_self_le h0
    have h2 : mag < 2 ^ (mag.log2 + 1) := Nat.lt_log2_self
    unfold rung0
    rw [if_neg h0]
    have e1 : (lastP f mag place - place).toNat = 0 := by omega
    rw [e1, Nat.pow_zero, cutE_one]
    have hkept : mag * 2 ^ (place - lastP f mag place).toNat < 2 * f.binade := by
      have hl : place + mag.log2 - f.fractionBits ≤ lastP f mag place := by unfold lastP; omega
      have : mag * 2 ^ (place - lastP f mag place).toNat < 2 ^ (mag.log2 + 1) * 2 ^ (place - lastP f mag place).toNat := (Nat.mul_lt_mul_right (Nat.two_pow_pos _)).2 h2
      rw [← Nat.pow_add] at this
      have h4 : 2 ^ (mag.log2 + 1 + (place - lastP f mag place).toNat) ≤ 2 ^ (f.fractionBits + 1) := Nat.pow_le_pow_right (by omega) (by omega)
      have h5 : 2 * f.binade = 2 ^ (f.fractionBits + 1) := by unfold Format.binade; rw [Nat.pow_succ]; omega
      omega
    have hval : mag * 2 ^ (place - lastP f mag place).toNat * 2 ^ (lastP f mag place - f.leastPlace).toNat = mag * 2 ^ (place - f.leastPlace).toNat := by
      rw [Nat.mul_assoc, ← Nat.pow_add]; congr 2; omega
    rw [← hval]
    by_cases hlt : f.leastPlace < lastP f mag place
    · have hge : f.binade ≤ mag * 2 ^ (place - lastP f mag place).toNat := by
        have hl : lastP f mag place = place + mag.log2 - f.fractionBits := by unfold lastP at hlt ⊢; omega
        have : 2 ^ mag.log2 * 2 ^ (place - lastP f mag place).toNat ≤ mag * 2 ^ (place - lastP f mag place).toNat := Nat.mul_le_mul_right _ h1
        rw [← Nat.pow_add] at this
        have h4 : 2 ^ f.fractionBits ≤ 2 ^ (mag.log2 + (place - lastP f mag place).toNat) := Nat.pow_le_pow_right (by omega) (by omega)
        show 2 ^ f.fractionBits ≤ _
        omega
      generalize mag * 2 ^ (place - lastP f mag place).toNat = K at *
      generalize (lastP f mag place - f.leastPlace).toNat = E at *
      have hd : (E * f.binade + K) / f.binade = E + 1 := by
        have : E * f.binade + K = (K - f.binade) + (E + 1) * f.binade := by rw [Nat.add_mul]; omega
        rw [this, Nat.add_mul_div_right _ _ hb, Nat.div_eq_of_lt (by omega)]; omega
      have hmo : (E * f.binade + K) % f.binade = K - f.binade := by
        have : E * f.binade + K = (K - f.binade) + (E + 1) * f.binade := by rw [Nat.add_mul]; omega
        rw [this, Nat.add_mul_mod_self_right, Nat.mod_eq_of_lt (by omega)]
      have hn : ¬ E * f.binade + K < f.binade := by omega
      unfold unitsR mgR exR
      rw [if_neg hn, if_neg hn, hd, hmo]
      congr 2; omega
    · have e2 : lastP f mag place = f.leastPlace := by omega
      rw [e2] at hkept ⊢
      generalize mag * 2 ^ (place - f.leastPlace).toNat = K at *
      simp only [Int.sub_self, Int.toNat_zero, Nat.zero_mul, Nat.zero_add, Nat.pow_zero, Nat.mul_one]
      unfold unitsR mgR exR
      by_cases c : K < f.binade
      · simp [c]
      · have hd : K / f.binade = 1 := by
          rw [show K = (K - f.binade) + 1 * f.binade by omega, Nat.add_mul_div_right _ _ hb, Nat.div_eq_of_lt (by omega)]
        have hmo : K % f.binade = K - f.binade := by
          rw [show K = (K - f.binade) + 1 * f.binade by omega, Nat.add_mul_mod_self_right, Nat.mod_eq_of_lt (by omega)]; omega
        rw [if_neg c, if_neg c, hd, hmo]
        simp; omega
end
section
theorem exp_pos (k : FloatKind) : 1 ≤ k.format.exponentBits := by cases k <;> decide
theorem nanB_fin {k : FloatKind} {b : Nat} (h : finW k.format b) : nanB k b = false := by
  unfold nanB FloatKind.decode; rw [read_fin _ h]; rfl
theorem nanB_inf {k : FloatKind} {b : Nat} (h : rgW k.format b = k.format.infRung) : nanB k b = false := by
  unfold nanB FloatKind.decode; rw [read_inf _ (exp_pos k) h]; rfl
theorem nanB_iff (k : FloatKind) (b : Nat) : nanB k b = true ↔ k.format.infRung < rgW k.format b := by
  constructor
  · intro h
    refine Nat.lt_of_not_le fun hle => ?_
    by_cases e : rgW k.format b = k.format.infRung
    · rw [nanB_inf e] at h; cases h
    · rw [nanB_fin (show finW k.format b from by unfold finW; omega)] at h; cases h
  · intro h; unfold nanB FloatKind.decode; rw [read_nan _ (exp_pos k) h]; rfl
theorem fin_of (k : FloatKind) {b : Nat} (h : nanB k b = false) (hi : rgW k.format b ≠ k.format.infRung) : finW k.format b := by
  unfold finW
  refine Nat.lt_of_not_le fun hle => ?_
  have := (nanB_iff k b).2 (by omega)
  rw [h] at this; cases this

theorem rung_le_inf (f : Format) (m : Nat) (p : Int) : rung f m p ≤ f.infRung := Nat.min_le_right ..
theorem rung_lt_sw (f : Format) (m : Nat) (p : Int) : rung f m p < f.signWeight := Nat.lt_of_le_of_lt (rung_le_inf f m p) f.infRung_lt
theorem nanB_word (k : FloatKind) (s : Bool) {r : Nat} (h : r ≤ k.format.infRung) : nanB k (k.format.word s r) = false := by
  have hs := Nat.lt_of_le_of_lt h k.format.infRung_lt
  cases hn : nanB k (k.format.word s r)
  · rfl
  · have := (nanB_iff k _).1 hn; rw [rgW_word _ _ hs] at this; omega

/-- What an operation gives is no NaN. -/
theorem nanB_bits {op : BinOp} {k : FloatKind} {x y r : Nat} (h : floatBits op k x y = some r) : nanB k r = false := by
  have key : ∀ d : Datum, d.isNaN = false → nanB k (k.format.write d) = false := by
    intro d hd
    cases d with
    | number s m e => simp only [Format.write, nearest_eq]; exact nanB_word k s (rung_le_inf _ _ _)
    | infinity s => exact nanB_word k s (Nat.le_refl _)
    | nan s t => cases hd
  have hsum : ∀ d e r : Datum, d.sum e = some r → r.isNaN = false := by
    intro d e r h
    cases d <;> cases e <;> simp only [Datum.sum] at h <;> first | (cases h; done) | skip
    · cases h; rfl
    · cases h; rfl
    · cases h; rfl
    · split at h
      · cases h; rfl
      · cases h
  have hprod : ∀ d e r : Datum, d.product e = some r → r.isNaN = false := by
    intro d e r h
    cases d <;> cases e <;> simp only [Datum.product] at h <;> first | (cases h; done) | skip
    · cases h; rfl
    · split at h
      · cases h
      · cases h; rfl
    · split at h
      · cases h
      · cases h; rfl
    · cases h; rfl
  have hquo : ∀ (n : Nat) (d e r : Datum), d.quotient n e = some r → r.isNaN = false := by
    intro n d e r h
    cases d <;> cases e <;> simp only [Datum.quotient] at h <;> first | (cases h; done) | skip
    · split at h
      · split at h
        · cases h
        · cases h; rfl
      · cases h; rfl
    · cases h; rfl
    · cases h; rfl
  cases op <;> simp only [floatBits] at h <;> first | (cases h; done) | skip
  · unfold Format.add at h
    obtain ⟨d, h1, rfl⟩ := Option.map_eq_some_iff.1 h
    exact key d (hsum _ _ _ h1)
  · unfold Format.sub at h
    obtain ⟨d, h1, rfl⟩ := Option.map_eq_some_iff.1 h
    exact key d (hsum _ _ _ h1)
  · unfold Format.mul at h
    obtain ⟨d, h1, rfl⟩ := Option.map_eq_some_iff.1 h
    exact key d (hprod _ _ _ h1)
  · unfold Format.div at h
    obtain ⟨d, h1, rfl⟩ := Option.map_eq_some_iff.1 h
    exact key d (hquo _ _ _ _ h1)

theorem nz_fop (op : BinOp) (k : FloatKind) (x y : Nat) : nz k (fop op k x y) = fop op k x y := by
  unfold fop
  cases h : floatBits op k x y with
  | none => exact nz_nan (nanB_cnan k)
  | some r => exact nz_num (nanB_bits h)

/-- A conversion, all NaNs made one (a number too great is left out: 'narrows'). -/
def fcv (s k : FloatKind) (b : Nat) : Nat := (floatToFloatBits s b k).getD (cnan k)
/-- The conversion asks nothing of the tape but a NaN's bits. -/
def narrows (s k : FloatKind) (b : Nat) : Prop := nanB s b = true ∨ (floatToFloatBits s b k).isSome = true

theorem cv_nan {s k : FloatKind} {b : Nat} (hne : s ≠ k) (h : nanB s b = true) : floatToFloatBits s b k = none := by
  obtain ⟨sg, t, hd⟩ := decode_nan h
  unfold floatToFloatBits
  have hd' : s.decode b = .nan sg t := hd
  simp [hne, hd']
theorem fcv_nz {s k : FloatKind} (b : Nat) (hne : s ≠ k) : fcv s k (nz s b) = fcv s k b := by
  rcases nz_cases s b with ⟨h, e⟩ | ⟨_, e⟩
  · unfold fcv; rw [e, cv_nan hne h, cv_nan hne (nanB_cnan s)]
  · rw [e]
theorem nanB_cv {s k : FloatKind} {b r : Nat} (hne : s ≠ k) (h : floatToFloatBits s b k = some r) : nanB k r = false := by
  unfold floatToFloatBits at h
  rw [if_neg hne] at h
  split at h
  · cases h
  · cases h; exact nanB_word k _ (Nat.le_refl _)
  · split at h
    · cases h
    · cases h; simp only [FloatKind.encode, Format.write, nearest_eq]; exact nanB_word k _ (rung_le_inf _ _ _)
theorem nz_fcv {s k : FloatKind} (b : Nat) (hne : s ≠ k) : nz k (fcv s k b) = fcv s k b := by
  unfold fcv
  cases h : floatToFloatBits s b k with
  | none => exact nz_nan (nanB_cnan k)
  | some r => exact nz_num (nanB_cv hne h)

/-- 2^128 as a rung of a double. -/
theorem u32_lt {r : Nat} (h : r < single.infRung) : unitsR single r < 2 ^ 277 := by
  have h1 := units_lt single h (Nat.le_refl _)
  have h2 : unitsR single single.infRung = 2 ^ 277 := by decide +kernel
  omega

/-- WIDENING IS EXACT. -/
theorem widen_fin {b : Nat} (h : finW single b) : ∃ r, floatToFloatBits .f32 b .f64 = some (double.word (sgW single b) r) ∧ r < double.infRung ∧ unitsR double r = unitsR single (rgW single b) * 2 ^ 925 := by
  have hb : FloatKind.f32.decode b = .number (sgW single b) (mgR single (rgW single b)) (single.leastPlace + exR single (rgW single b)) := read_fin single h
  have hm : mgR single (rgW single b) < 2 ^ (double.fractionBits + 1) := by
    unfold mgR
    have : rgW single b % single.binade < single.binade := Nat.mod_lt _ (binade_pos _)
    have h2 : single.binade = 2 ^ 23 := rfl
    have h3 : 2 ^ (double.fractionBits + 1) = 2 ^ 53 := rfl
    split <;> omega
  have hl1 : single.leastPlace = -149 := by decide
  have hl2 : double.leastPlace = -1074 := by decide
  have hu := units_rung0 double (place := single.leastPlace + exR single (rgW single b)) hm (by omega)
  have hu2 : unitsR double (rung0 double (mgR single (rgW single b)) (single.leastPlace + exR single (rgW single b))) = unitsR single (rgW single b) * 2 ^ 925 := by
    rw [hu]; unfold unitsR
    rw [show (single.leastPlace + (exR single (rgW single b) : Int) - double.leastPlace).toNat = exR single (rgW single b) + 925 by omega, Nat.pow_add, Nat.mul_assoc]
  have hlt := u32_lt h
  have hr : rung0 double (mgR single (rgW single b)) (single.leastPlace + exR single (rgW single b)) < double.infRung := by
    have hi : unitsR double (double.infRung - 1) = (2 ^ 53 - 1) * 2 ^ 2045 := by decide +kernel
    refine Nat.lt_of_not_le fun hge => ?_
    have hle := rung_le_of_le double (mgR single (rgW single b)) (single.leastPlace + exR single (rgW single b)) double.leastPlace (double.infRung - 1) (by omega) (by omega) (Int.le_refl _) (by
      have e1 : (single.leastPlace + (exR single (rgW single b) : Int) - double.leastPlace).toNat = exR single (rgW single b) + 925 := by omega
      rw [e1, Nat.pow_add, ← Nat.mul_assoc]
      show unitsR single (rgW single b) * 2 ^ 925 ≤ _
      rw [hi]
      have h3 : (2 : Nat) ^ 277 * 2 ^ 925 ≤ (2 ^ 53 - 1) * 2 ^ 2045 * 2 ^ (double.leastPlace - double.leastPlace).toNat := by decide +kernel
      exact Nat.le_trans (Nat.mul_le_mul_right _ (Nat.le_of_lt hlt)) h3)
    unfold rung at hle
    have : 0 < double.infRung := by decide
    omega
  refine ⟨_, ?_, hr, hu2⟩
  unfold floatToFloatBits
  rw [if_neg (by decide), hb]
  have he : FloatKind.f64.encode (.number (sgW single b) (mgR single (rgW single b)) (single.leastPlace + exR single (rgW single b))) = double.word (sgW single b) (rung0 double (mgR single (rgW single b)) (single.leastPlace + exR single (rgW single b))) := by
    show double.nearest _ _ _ = _
    rw [nearest_eq]; unfold rung; congr 1; omega
  simp only [he]
  have hf : finW double (double.word (sgW single b) (rung0 double (mgR single (rgW single b)) (single.leastPlace + exR single (rgW single b)))) := by
    unfold finW; rw [rgW_word _ _ (Nat.lt_trans hr double.infRung_lt)]; exact hr
  have hd : FloatKind.f64.decode (double.word (sgW single b) (rung0 double (mgR single (rgW single b)) (single.leastPlace + exR single (rgW single b)))) = _ := read_fin double hf
  rw [hd]
  simp [Datum.isInfinity]
end
section
theorem drawn_nan (k : FloatKind) (q : Question) (t : Nat) (hq : (∃ x y, q = .nanBits k x y) ∨ (∃ x, q = .nanConv k x)) : nanB k (q.cut t) = true ∧ q.cut t < 2 ^ k.format.width ∧ q.forced = false := by
  have h31 : (t % 2) * 2 ^ 31 + 0x7f800000 + 1 + (t / 2) % (2 ^ 23 - 1) = Ieee.single.word (t % 2 == 1) (0x7f800000 + 1 + (t / 2) % (2 ^ 23 - 1)) := by
    have hsw : Ieee.single.signWeight = 2 ^ 31 := rfl
    unfold Ieee.Format.word; rw [hsw]
    rcases Nat.mod_two_eq_zero_or_one t with e | e <;> rw [e] <;> simp <;> omega
  have h63 : (t % 2) * 2 ^ 63 + 0x7ff0000000000000 + 1 + (t / 2) % (2 ^ 52 - 1) = Ieee.double.word (t % 2 == 1) (0x7ff0000000000000 + 1 + (t / 2) % (2 ^ 52 - 1)) := by
    have hsw : Ieee.double.signWeight = 2 ^ 63 := rfl
    unfold Ieee.Format.word; rw [hsw]
    rcases Nat.mod_two_eq_zero_or_one t with e | e <;> rw [e] <;> simp <;> omega
  have b31 : (t / 2) % (2 ^ 23 - 1) < 2 ^ 23 - 1 := Nat.mod_lt _ (by decide)
  have b63 : (t / 2) % (2 ^ 52 - 1) < 2 ^ 52 - 1 := Nat.mod_lt _ (by decide)
  have c31 : q.cut t = (t % 2) * 2 ^ 31 + 0x7f800000 + 1 + (t / 2) % (2 ^ 23 - 1) → k = .f32 → nanB k (q.cut t) = true ∧ q.cut t < 2 ^ k.format.width := by
    intro e hk; subst hk
    refine ⟨?_, ?_⟩
    · rw [e, h31, nanB_iff]
      have hs : 0x7f800000 + 1 + (t / 2) % (2 ^ 23 - 1) < FloatKind.f32.format.signWeight := by show _ < 2 ^ 31; omega
      show FloatKind.f32.format.infRung < rgW FloatKind.f32.format (FloatKind.f32.format.word _ _)
      rw [rgW_word _ _ hs]
      show 0x7f800000 < _; omega
    · rw [e]; show _ < 2 ^ 32; have := Nat.mod_lt t (show 0 < 2 by decide); omega
  have c63 : q.cut t = (t % 2) * 2 ^ 63 + 0x7ff0000000000000 + 1 + (t / 2) % (2 ^ 52 - 1) → k = .f64 → nanB k (q.cut t) = true ∧ q.cut t < 2 ^ k.format.width := by
    intro e hk; subst hk
    refine ⟨?_, ?_⟩
    · rw [e, h63, nanB_iff]
      have hs : 0x7ff0000000000000 + 1 + (t / 2) % (2 ^ 52 - 1) < FloatKind.f64.format.signWeight := by show _ < 2 ^ 63; omega
      show FloatKind.f64.format.infRung < rgW FloatKind.f64.format (FloatKind.f64.format.word _ _)
      rw [rgW_word _ _ hs]
      show 0x7ff0000000000000 < _; omega
    · rw [e]; show _ < 2 ^ 64; have := Nat.mod_lt t (show 0 < 2 by decide); omega
  rcases hq with ⟨x, y, rfl⟩ | ⟨x, rfl⟩ <;> cases k
  · exact ⟨(c31 rfl rfl).1, (c31 rfl rfl).2, rfl⟩
  · exact ⟨(c63 rfl rfl).1, (c63 rfl rfl).2, rfl⟩
  · exact ⟨(c31 rfl rfl).1, (c31 rfl rfl).2, rfl⟩
  · exact ⟨(c63 rfl rfl).1, (c63 rfl rfl).2, rfl⟩

theorem hid {p : Prop} (h : p) : Hid p := h
/-- Is it one of the four? -/
def arith : BinOp → Bool
  | .add | .sub | .mul | .quo => true
  | _ => false

section
variable {P : Program} (w : World)
theorem run_fop (op : BinOp) (hop : arith op = true) (t : TypeId) (k : FloatKind) (x y : Nat) :
    ∃ v n, (binOp op t (.float k x) (.float k y)).run P w = .ok (.float k v) (w.drewN n) ∧ nz k v = fop op k x y ∧ v < 2 ^ k.format.width := by
  cases h : floatBits op k x y with
  | some r =>
    have hl := floatBits_wf h
    refine ⟨r, 0, run_float_arith w op t k x y r h, ?_, ?_⟩
    · unfold fop; rw [h]; exact nz_num (nanB_bits h)
    · cases k
      · have h2 : r < 2 ^ 32 := by simpa [Lit.wf] using hl
        exact h2
      · have h2 : r < 2 ^ 64 := by simpa [Lit.wf] using hl
        exact h2
  | none =>
    obtain ⟨h1, h2, h3⟩ := drawn_nan k (.nanBits k x y) (w.tape w.drawn (.nanBits k x y)) (.inl ⟨x, y, rfl⟩)
    refine ⟨_, 1, ?_, ?_, h2⟩
    · cases op <;> simp only [arith] at hop <;> first | (cases hop; done) | skip
      all_goals
        simp only [floatBits] at h
        simp [binOp, Op.floatArith, h, choose, Sem.run, h3, World.drewN]
    · unfold fop; rw [h]; exact nz_nan h1

theorem run_fcv (src dst : TypeId) (s k : FloatKind) (b : Nat) (hne : s ≠ k) (hs : (P.underlying src).isSome = true) (hd : P.underlying dst = some (.float k)) (hn : narrows s k b) (hb : b < 2 ^ s.format.width) :
    ∃ v n, (convert src dst (.float s b)).run P w = .ok (.float k v) (w.drewN n) ∧ nz k v = fcv s k b ∧ v < 2 ^ k.format.width := by
  cases h : floatToFloatBits s b k with
  | some r =>
    refine ⟨r, 0, run_convert_float_float w src dst s k b r hs hd h, ?_, ?_⟩
    · unfold fcv; rw [h]; exact nz_num (nanB_cv hne h)
    · have hl := floatToFloatBits_wf (src := s) (bits := b) (wf_of_lt s b hb) h
      cases k
      · have h2 : r < 2 ^ 32 := by simpa [Lit.wf] using hl
        exact h2
      · have h2 : r < 2 ^ 64 := by simpa [Lit.wf] using hl
        exact h2
  | none =>
    have hnan : nanB s b = true := by
      rcases hn with h' | h'
      · exact h'
      · rw [h] at h'; cases h'
    obtain ⟨sg, t, hd'⟩ := decode_nan hnan
    have hd2 : s.decode b = .nan sg t := hd'
    obtain ⟨h1, h2, h3⟩ := drawn_nan k (.nanConv k b) (w.tape w.drawn (.nanConv k b)) (.inr ⟨b, rfl⟩)
    obtain ⟨u, hs'⟩ := Option.isSome_iff_exists.1 hs
    refine ⟨_, 1, ?_, ?_, h2⟩
    · cases u <;> simp [convert, run_underlying hs', run_underlying hd, Conv.floatToFloat, hne, hd2, choose, Sem.run, h3, World.drewN]
    · unfold fcv; rw [h]; exact nz_nan h1
end

section
variable {P : Program} (w : World) {ops : Array Oper} {rest : List Oper} {o : Oper} {a : Act} {Q : Exit → Act → World → Prop}
/-- THE WALK's LAW: '+', '-', '*', '/' on floats, whatever they are. -/
theorem wpList_fop (hw : Region.wanted o (yielded ops a.tmps) = true) (op : BinOp) (t u : TypeId) (l r : Operand) (hop : o.op = Op.binOp op t l r u) (har : arith op = true) (k : FloatKind) (x y : Nat) (hl : a.eval l = .float k x) (hr : a.eval r = .float k y)
    (hK : ∀ v n, Hid (nz k v = fop op k x y) → Hid (v < 2 ^ k.format.width) → wpList P ops Q rest (a.put o.dst (.float k v)) (w.drewN n)) : wpList P ops Q (o :: rest) a w := by
  refine wpList_step fun K hK' => ?_
  rw [if_pos hw]
  obtain ⟨v, n, hrun, h1, h2⟩ := run_fop (P := P) w op har t k x y
  have hgd : eqGuard op t l r (.float k x) (.float k y) = pure () := by
    cases op <;> simp only [arith] at har <;> first | (cases har; done) | rfl
  unfold Oper.wp
  simp [execOp, hop, hl, hr, hgd, hrun, Result.andThen]
  exact hK' _ _ (hK v n h1 h2)
/-- 'float64(x)', 'float32(x)'. -/
theorem wpList_fcv (hw : Region.wanted o (yielded ops a.tmps) = true) (src dst : TypeId) (l : Operand) (hop : o.op = Op.convert src dst l) (s k : FloatKind) (b : Nat) (hl : a.eval l = .float s b) (hne : s ≠ k) (hs : (P.underlying src).isSome = true) (hd : P.underlying dst = some (.float k)) (hn : narrows s k b) (hb : b < 2 ^ s.format.width)
    (hK : ∀ v n, Hid (nz k v = fcv s k b) → Hid (v < 2 ^ k.format.width) → wpList P ops Q rest (a.put o.dst (.float k v)) (w.drewN n)) : wpList P ops Q (o :: rest) a w := by
  refine wpList_step fun K hK' => ?_
  rw [if_pos hw]
  obtain ⟨v, n, hrun, h1, h2⟩ := run_fcv (P := P) w src dst s k b hne hs hd hn hb
  unfold Oper.wp
  simp [execOp, hop, hl, hrun, Result.andThen]
  exact hK' _ _ (hK v n h1 h2)
end
end
section
def finB (k : FloatKind) (x : Nat) : Bool := decide (finW k.format x)

theorem order_self (k : FloatKind) (x : Nat) : k.format.order x x = if nanB k x then none else some .eq := by
  by_cases h : finW k.format x
  · rw [nanB_fin h, order_fin _ h h]; simp [compare, compareOfLessAndEq]
  · by_cases h2 : rgW k.format x = k.format.infRung
    · rw [nanB_inf h2]; unfold Ieee.Format.order; rw [read_inf _ (exp_pos k) h2]; cases sgW k.format x <;> rfl
    · have h3 : k.format.infRung < rgW k.format x := by unfold finW at h; omega
      rw [(nanB_iff k x).2 h3]; unfold Ieee.Format.order; rw [read_nan _ (exp_pos k) h3]; rfl
theorem eq_self (k : FloatKind) (x : Nat) : (k.format.order x x == some .eq) = !nanB k x := by rw [order_self]; cases nanB k x <;> rfl
theorem ne_self (k : FloatKind) (x : Nat) : (k.format.order x x != some .eq) = nanB k x := by rw [order_self]; cases nanB k x <;> rfl

theorem finW_zero (k : FloatKind) : finW k.format 0 := by cases k <;> decide
theorem order_zero (k : FloatKind) : k.format.order 0 0 = some .eq := by rw [order_self, nanB_fin (finW_zero k)]; rfl
theorem fop_self (k : FloatKind) (x : Nat) : fop .sub k x x = if finB k x then 0 else cnan k := by
  unfold fop floatBits finB
  by_cases h : finW k.format x
  · simp only; rw [sub_self_fin _ (exp_pos k) h]; simp [h]
  · simp only; rw [sub_self_inf _ (exp_pos k) h]; simp [h]
theorem order_sub_self {k : FloatKind} {x v : Nat} (h : nz k v = fop .sub k x x) : k.format.order v 0 = if finB k x then some .eq else none := by
  rw [← order_nz_left, h, fop_self]
  cases finB k x
  · simp only [Bool.false_eq_true, if_false]
    unfold Ieee.Format.order
    exact order_nan_left (nanB_cnan k)
  · simp only [if_true]; exact order_zero k
theorem fin_test {k : FloatKind} {x v : Nat} (h : nz k v = fop .sub k x x) : (k.format.order v 0 == some .eq) = finB k x := by rw [order_sub_self h]; cases finB k x <;> rfl
theorem fin_test' {k : FloatKind} {x v : Nat} (h : nz k v = fop .sub k x x) : (k.format.order v 0 != some .eq) = !finB k x := by rw [order_sub_self h]; cases finB k x <;> rfl

theorem fin_nz (k : FloatKind) (x : Nat) : finB k (nz k x) = finB k x := by
  rcases nz_cases k x with ⟨h, e⟩ | ⟨_, e⟩
  · rw [e]
    have h1 := (nanB_iff k x).1 h
    have h2 := (nanB_iff k (cnan k)).1 (nanB_cnan k)
    unfold finB finW
    simp [show ¬ rgW k.format x < k.format.infRung by omega, show ¬ rgW k.format (cnan k) < k.format.infRung by omega]
  · rw [e]
theorem nan_nz (k : FloatKind) (x : Nat) : nanB k (nz k x) = nanB k x := nanB_nz k x

theorem cv_inf {b : Nat} (h : rgW Ieee.single b = Ieee.single.infRung) : floatToFloatBits .f32 b .f64 = some (Ieee.double.word (sgW Ieee.single b) Ieee.double.infRung) := by
  unfold floatToFloatBits
  have : FloatKind.f32.decode b = .infinity (sgW Ieee.single b) := read_inf _ (by decide) h
  simp [this, FloatKind.encode, Ieee.Format.write, FloatKind.format]
theorem narrows_up (b : Nat) : narrows .f32 .f64 b := by
  by_cases h : finW Ieee.single b
  · obtain ⟨r, h1, _⟩ := widen_fin h
    right; rw [h1]; rfl
  · by_cases h2 : rgW Ieee.single b = Ieee.single.infRung
    · right; rw [cv_inf h2]; rfl
    · left; exact (nanB_iff .f32 b).2 (by unfold finW at h; show Ieee.single.infRung < rgW Ieee.single b; omega)

/-- The three kinds of a word, and what widening makes of them. -/
theorem widen_cases (b : Nat) :
    (finW Ieee.single b ∧ ∃ r, fcv .f32 .f64 b = Ieee.double.word (sgW Ieee.single b) r ∧ r < Ieee.double.infRung ∧ unitsR Ieee.double r = unitsR Ieee.single (rgW Ieee.single b) * 2 ^ 925) ∨
    (rgW Ieee.single b = Ieee.single.infRung ∧ fcv .f32 .f64 b = Ieee.double.word (sgW Ieee.single b) Ieee.double.infRung) ∨
    (nanB .f32 b = true ∧ fcv .f32 .f64 b = cnan .f64) := by
  by_cases h : finW Ieee.single b
  · obtain ⟨r, h1, h2, h3⟩ := widen_fin h
    left; exact ⟨h, r, by unfold fcv; rw [h1]; rfl, h2, h3⟩
  · by_cases h2 : rgW Ieee.single b = Ieee.single.infRung
    · right; left; exact ⟨h2, by unfold fcv; rw [cv_inf h2]; rfl⟩
    · have h3 : nanB .f32 b = true := (nanB_iff .f32 b).2 (by unfold finW at h; show Ieee.single.infRung < rgW Ieee.single b; omega)
      right; right; exact ⟨h3, by unfold fcv; rw [cv_nan (by decide) h3]; rfl⟩
theorem fin_widen (b : Nat) : finB .f64 (fcv .f32 .f64 b) = finB .f32 b := by
  rcases widen_cases b with ⟨h, r, e, h2, _⟩ | ⟨h, e⟩ | ⟨h, e⟩
  · rw [e]
    have a : finW Ieee.double (Ieee.double.word (sgW Ieee.single b) r) := by unfold finW; rw [rgW_word _ _ (Nat.lt_trans h2 Ieee.double.infRung_lt)]; exact h2
    unfold finB; simp only [FloatKind.format, h, a]
  · rw [e]
    have a : ¬ finW Ieee.double (Ieee.double.word (sgW Ieee.single b) Ieee.double.infRung) := by unfold finW; rw [rgW_word _ _ Ieee.double.infRung_lt]; omega
    have c : ¬ finW Ieee.single b := by unfold finW; omega
    unfold finB; simp only [FloatKind.format, c, a]
  · rw [e]
    have c : ¬ finW Ieee.single b := by have := (nanB_iff .f32 b).1 h; unfold finW; show ¬ rgW FloatKind.f32.format b < FloatKind.f32.format.infRung; omega
    have d : finB .f64 (cnan .f64) = false := by decide +kernel
    rw [d]; unfold finB; simp only [FloatKind.format, c]; rfl
theorem nan_widen (b : Nat) : nanB .f64 (fcv .f32 .f64 b) = nanB .f32 b := by
  rcases widen_cases b with ⟨h, r, e, h2, _⟩ | ⟨h, e⟩ | ⟨h, e⟩
  · rw [e, nanB_fin (k := .f32) h]; exact nanB_word .f64 _ (Nat.le_of_lt h2)
  · rw [e, nanB_inf (k := .f32) h]; exact nanB_word .f64 _ (Nat.le_refl _)
  · rw [e, h]; decide +kernel
theorem f32_lt {b : Nat} (h : (Lit.float .f32 b).wf = true) : b < 2 ^ 32 := by simpa [Lit.wf] using h
theorem f64_lt {b : Nat} (h : (Lit.float .f64 b).wf = true) : b < 2 ^ 64 := by simpa [Lit.wf] using h
theorem grown_drewN (w : World) (n : Nat) : Grown w (w.drewN n) := Grown.refl w
end
section
theorem i64_and_nat (a b : Nat) (ha : a < 9223372036854775808) (hb : b < 9223372036854775808) : bits .and .i64 (a : Int) (b : Int) = ((a &&& b : Nat) : Int) := by
  have hx : a &&& b < 2 ^ 63 := Nat.and_lt_two_pow _ (by omega)
  show IntKind.i64.wrap ((BitVec.ofInt 64 (a : Int) &&& BitVec.ofInt 64 (b : Int)).toNat : Int) = _
  rw [BitVec.toNat_and, ofInt_u64 a (by omega), ofInt_u64 b (by omega), IntKind.wrap_i64]
  omega
theorem abs_bits (x : Nat) (hx : x < 2 ^ 64) : (bits .andNot .u64 (x : Int) 9223372036854775808).toNat = x % 2 ^ 63 := by
  have h := u64_andNot_nat x 9223372036854775808 (by omega) (by omega)
  rw [show ((9223372036854775808 : Nat) : Int) = 9223372036854775808 from rfl] at h
  rw [h, Int.toNat_natCast]
  exact Nat.and_two_pow_sub_one_eq_mod x 63
theorem and_exp0 (n : Nat) : (n &&& 2139095040 = 0) ↔ n % 2 ^ 31 < 2 ^ 23 := by
  have e : n &&& 2139095040 = ((n / 2 ^ 23) % 2 ^ 8) * 2 ^ 23 := by
    have e2 : (2139095040 : Nat) = (2 ^ 8 - 1) <<< 23 := by decide
    have e3 : n &&& ((2 ^ 8 - 1) <<< 23) = ((n >>> 23) &&& (2 ^ 8 - 1)) <<< 23 := by
      apply Nat.eq_of_testBit_eq
      intro i
      simp only [Nat.testBit_and, Nat.testBit_shiftLeft, Nat.testBit_shiftRight]
      by_cases hi : 23 ≤ i
      · simp [hi, show 23 + (i - 23) = i by omega]
      · simp [hi]
    rw [e2, e3, Nat.and_two_pow_sub_one_eq_mod, Nat.shiftLeft_eq, Nat.shiftRight_eq_div_pow]
  rw [e]; omega
/-- Is the exponent field nought? -/
def subE (x : Nat) : Bool := decide (rgW single x < 2 ^ 23)
theorem rgW_single (x : Nat) : rgW single x = x % 2 ^ 31 := rfl
theorem rgW_double (x : Nat) : rgW double x = x % 2 ^ 63 := rfl
theorem and_exp (x : Nat) (h : x < 2 ^ 32) : (bits .and .i64 (x : Int) 2139095040 == 0) = subE x := by
  have e := i64_and_nat x 2139095040 (by omega) (by omega)
  rw [show ((2139095040 : Nat) : Int) = 2139095040 from rfl] at e
  rw [e]
  have h2 := and_exp0 x
  unfold subE; rw [rgW_single]
  by_cases c : x % 2 ^ 31 < 2 ^ 23
  · have h3 := h2.2 c
    rw [h3]; simp [c]
  · have h3 : ¬ (x &&& 2139095040 = 0) := fun hh => c (h2.1 hh)
    have h4 : ¬ (((x &&& 2139095040 : Nat) : Int) = 0) := by omega
    simp only [c, decide_false, beq_eq_false_iff_ne]; exact h4
theorem subE_nan {x : Nat} (h : nanB .f32 x = true) : subE x = false := by
  have := (nanB_iff .f32 x).1 h
  have h2 : FloatKind.f32.format.infRung = 2139095040 := rfl
  have h3 : rgW FloatKind.f32.format x = rgW single x := rfl
  unfold subE; simp only [decide_eq_false_iff_not]; omega

theorem order_word_fin (f : Format) {r s : Nat} (hr : r < f.infRung) (hs : s < f.infRung) : f.order r s = some (compare r s) := by
  have hsw := f.infRung_lt
  have e1 : f.word false r = r := rfl
  have e2 : f.word false s = s := rfl
  have a1 : rgW f r = r := by rw [← e1]; exact rgW_word f false (by omega)
  have a2 : rgW f s = s := by rw [← e2]; exact rgW_word f false (by omega)
  have b1 : sgW f r = false := by rw [← e1]; exact sgW_word f false (by omega)
  have b2 : sgW f s = false := by rw [← e2]; exact sgW_word f false (by omega)
  rw [order_fin f (by unfold finW; omega) (by unfold finW; omega)]
  unfold valW; rw [a1, a2, b1, b2]
  simp only [Bool.false_eq_true, if_false]
  have h1 := units_lt_iff f (Nat.le_of_lt hr) (Nat.le_of_lt hs)
  have h2 := units_lt_iff f (Nat.le_of_lt hs) (Nat.le_of_lt hr)
  congr 1
  simp only [compare, compareOfLessAndEq]
  by_cases c : r < s
  · have : unitsR f r < unitsR f s := h1.2 c
    simp [c, this]
  · by_cases c2 : r = s
    · subst c2; simp
    · have h3 : unitsR f s < unitsR f r := h2.2 (by omega)
      have h4 : ¬ unitsR f r < unitsR f s := by omega
      have h5 : ¬ ((unitsR f r : Int) = unitsR f s) := by omega
      have h6 : ¬ ((unitsR f r : Int) < unitsR f s) := by omega
      simp only [c, c2, h5, h6, if_false]

/-- What is nearer to 0 than 2^-126, seen in 64 bits. -/
theorem abs_small {x v : Nat} (h : nz .f64 v = fcv .f32 .f64 x) : (FloatKind.f64.format.order (v % 2 ^ 63) 4039728865751334912 == some .lt) = subE x := by
  have hi64 : double.infRung = 9218868437227405312 := rfl
  have hi32 : single.infRung = 2139095040 := rfl
  have hsw : double.signWeight = 2 ^ 63 := rfl
  rcases widen_cases x with ⟨hf, r, e, h2, h3⟩ | ⟨hf, e⟩ | ⟨hf, e⟩
  · have hn : nanB .f64 v = false := by rw [← nan_nz, h, nan_widen]; exact nanB_fin (k := .f32) hf
    rw [nz_num hn, e] at h
    have hr : v % 2 ^ 63 = r := by rw [← rgW_double, h]; exact rgW_word double _ (by omega)
    rw [hr]
    have ho : FloatKind.f64.format.order r 4039728865751334912 = some (compare r 4039728865751334912) := order_word_fin double h2 (by decide)
    rw [ho]
    have hu : ∀ J, J = 925 → unitsR double 4039728865751334912 = 2 ^ (23 + J) := by
      intro J hJ; rw [hJ]; decide +kernel
    obtain ⟨J, hJ⟩ : ∃ J, J = 925 := ⟨_, rfl⟩
    rw [← hJ] at h3
    have hu2 : unitsR single (2 ^ 23) = 2 ^ 23 := by decide +kernel
    have c1 := units_lt_iff double (r := r) (s := 4039728865751334912) (by omega) (by omega)
    have c2 := units_lt_iff single (r := rgW single x) (s := 2 ^ 23) (by unfold finW at hf; omega) (by omega)
    rw [hu J hJ, h3] at c1
    rw [hu2] at c2
    have c3 : unitsR single (rgW single x) * 2 ^ J < 2 ^ (23 + J) ↔ unitsR single (rgW single x) < 2 ^ 23 := by
      rw [Nat.pow_add]
      exact Nat.mul_lt_mul_right (Nat.two_pow_pos _)
    have c4 : r < 4039728865751334912 ↔ rgW single x < 2 ^ 23 := by rw [← c1, c3, c2]
    unfold subE
    by_cases c : r < 4039728865751334912
    · have d := c4.1 c
      simp [compare, compareOfLessAndEq, c, d]
    · have d : ¬ rgW single x < 2 ^ 23 := fun hh => c (c4.2 hh)
      simp only [compare, compareOfLessAndEq, c, d, if_false, decide_false]
      split <;> rfl
  · have hn : nanB .f64 v = false := by rw [← nan_nz, h, nan_widen]; exact nanB_inf (k := .f32) hf
    rw [nz_num hn, e] at h
    have hr : v % 2 ^ 63 = double.infRung := by rw [← rgW_double, h]; exact rgW_word double _ (by omega)
    rw [hr]
    have s1 : subE x = false := by unfold subE; simp only [decide_eq_false_iff_not]; omega
    rw [s1]; decide +kernel
  · have hn : nanB .f64 v = true := by rw [← nan_nz, h, nan_widen]; exact hf
    rw [subE_nan hf]
    have h1 := (nanB_iff .f64 v).1 hn
    have h2 : nanB .f64 (v % 2 ^ 63) = true := by
      rw [nanB_iff]
      have e1 : rgW FloatKind.f64.format v = v % 2 ^ 63 := rfl
      have e2 : rgW FloatKind.f64.format (v % 2 ^ 63) = v % 2 ^ 63 % 2 ^ 63 := rfl
      rw [e2, Nat.mod_mod, ← e1]; exact h1
    have h3 : (FloatKind.f64.format.read (v % 2 ^ 63)).isNaN = true := h2
    unfold Format.order
    rw [order_nan_left h3]; rfl
end
section
/-- It hands back a float that is E, but for a NaN's bits; the world has at most drawn. -/
def RetF (k : FloatKind) (E : Nat) (w : World) (e : Ending) (w' : World) : Prop := ∃ v n, e = .returned (.float k v) ∧ Hid (nz k v = E) ∧ Hid (v < 2 ^ k.format.width) ∧ w' = w.drewN n
/-- A float and a bool. -/
def RetFB (k : FloatKind) (E : Nat) (b : Bool) (w : World) (e : Ending) (w' : World) : Prop := ∃ v n, e = .returned (.tuple #[.float k v, .bool b]) ∧ Hid (nz k v = E) ∧ Hid (v < 2 ^ k.format.width) ∧ w' = w.drewN n
/-- A plain value; the world has at most drawn. -/
def RetV (v : Value) (w : World) (e : Ending) (w' : World) : Prop := e = .returned v ∧ ∃ n, w' = w.drewN n

theorem same_of {E vg vw v1 v2 : Nat} (hg : Hid (nz .f32 vg = E)) (hw : Hid (nz .f32 vw = E)) (h1 : Hid (nz .f64 v1 = fcv .f32 .f64 vg)) (h2 : Hid (nz .f64 v2 = fcv .f32 .f64 vw)) : nz .f64 v1 = nz .f64 v2 := by
  rw [h1.out, h2.out, ← fcv_nz vg (by decide), ← fcv_nz vw (by decide), hg.out, hw.out]
theorem w32 : FloatKind.f32.format.width = 32 := rfl
theorem w64 : FloatKind.f64.format.width = 64 := rfl
theorem hid32 {b : Nat} (h : b < 2 ^ 32) : Hid (b < 2 ^ FloatKind.f32.format.width) := h

/-- The sign bit of a 32-bit word. -/
def signBit (x : Nat) : Nat := if x < 2 ^ 31 then 0 else 2 ^ 31
theorem and_sign0 (x n : Nat) (h : x < 2 ^ (n + 1)) : x &&& 2 ^ n = if x < 2 ^ n then 0 else 2 ^ n := by
  apply Nat.eq_of_testBit_eq
  intro i
  rw [Nat.testBit_and, Nat.testBit_two_pow]
  by_cases c : x < 2 ^ n
  · simp only [c, if_true, Nat.zero_testBit]
    by_cases hi : n = i
    · subst hi; simp [Nat.testBit_lt_two_pow c]
    · simp [hi]
  · simp only [c, if_false, Nat.testBit_two_pow]
    by_cases hi : n = i
    · subst hi
      have : x.testBit n = true := by
        rw [Nat.testBit_eq_decide_div_mod_eq]
        have h1 : 2 ^ n ≤ x := by omega
        have h2 : x / 2 ^ n = 1 := by
          have h3 : 1 ≤ x / 2 ^ n := (Nat.le_div_iff_mul_le (Nat.two_pow_pos n)).2 (by omega)
          have h4 : x / 2 ^ n < 2 := (Nat.div_lt_iff_lt_mul (Nat.two_pow_pos n)).2 (by rw [Nat.pow_succ] at h; omega)
          omega
        simp [h2]
      simp [this]
    · simp [hi]
theorem sign_i64 (x : Nat) (h : x < 2 ^ 32) : (bits .and .i64 (x : Int) 2147483648).toNat = signBit x := by
  have e := i64_and_nat x 2147483648 (by omega) (by omega)
  rw [show ((2147483648 : Nat) : Int) = 2147483648 from rfl] at e
  rw [e, Int.toNat_natCast]; exact and_sign0 x 31 h
theorem sign_u64 (v : Nat) (h : v < 2 ^ 64) : (bits .or .u64 (bits .andNot .u64 0 9223372036854775808) (bits .and .u64 (v : Int) 9223372036854775808)).toNat = if v < 2 ^ 63 then 0 else 2 ^ 63 := by
  have e := u64_and_nat v 9223372036854775808 (by omega) (by omega)
  rw [show ((9223372036854775808 : Nat) : Int) = 9223372036854775808 from rfl] at e
  have e2 : bits .andNot .u64 0 9223372036854775808 = ((0 : Nat) : Int) := by decide +kernel
  have e3 : v &&& 9223372036854775808 = if v < 2 ^ 63 then 0 else 2 ^ 63 := and_sign0 v 63 h
  have hlt : v &&& 9223372036854775808 < 2 ^ 64 := by rw [e3]; split <;> omega
  have e4 := u64_or_nat 0 (v &&& 9223372036854775808) (by omega) (by omega)
  rw [e, e2, e4, Int.toNat_natCast, e3, Nat.zero_or]
theorem sg_widen {x v : Nat} (hx : x < 2 ^ 32) (hn : nanB .f32 x = false) (h : nz .f64 v = fcv .f32 .f64 x) : v < 2 ^ 63 ↔ x < 2 ^ 31 := by
  have hn2 : nanB .f64 v = false := by rw [← nan_nz, h, nan_widen]; exact hn
  rw [nz_num hn2] at h
  have key : ∀ r, r < double.signWeight → (double.word (sgW single x) r < 2 ^ 63 ↔ x < 2 ^ 31) := by
    intro r hr
    have hsw : double.signWeight = 2 ^ 63 := rfl
    have hs : sgW single x = (x / 2 ^ 31 % 2 == 1) := rfl
    by_cases c : x < 2 ^ 31
    · have : sgW single x = false := by rw [hs, Nat.div_eq_of_lt c]; rfl
      rw [this]; unfold Format.word; simp [c]; omega
    · have h1 : x / 2 ^ 31 = 1 := by omega
      have : sgW single x = true := by rw [hs, h1]; rfl
      rw [this]; unfold Format.word; simp [c]; omega
  rcases widen_cases x with ⟨_, r, e, h2, _⟩ | ⟨_, e⟩ | ⟨hf, _⟩
  · rw [h, e]; exact key r (Nat.lt_trans h2 double.infRung_lt)
  · rw [h, e]; exact key _ double.infRung_lt
  · rw [hn] at hf; cases hf
theorem narrows_zero (c : Prop) [Decidable c] : narrows .f64 .f32 (if c then 0 else 2 ^ 63) := by
  right; split <;> decide +kernel
theorem fcv_zero (c : Prop) [Decidable c] : fcv .f64 .f32 (if c then 0 else 2 ^ 63) = if c then 0 else 2 ^ 31 := by
  split <;> decide +kernel
end
section
/-- A number whose magnitude is at most 2^K least units. -/
def bdW (f : Format) (b K : Nat) : Prop := finW f b ∧ unitsR f (rgW f b) ≤ 2 ^ K
theorem bdW_mono {f : Format} {b K L : Nat} (h : bdW f b K) (hl : K ≤ L) : bdW f b L := ⟨h.1, Nat.le_trans h.2 (Nat.pow_le_pow_right (by omega) hl)⟩
/-- The rung of 2^K least units. -/
def rungPow (f : Format) (K : Nat) : Nat := (K - f.fractionBits + 1) * f.binade
theorem units_rungPow (f : Format) {K : Nat} (hK : f.fractionBits ≤ K) : unitsR f (rungPow f K) = 2 ^ K := by
  have hb := binade_pos f
  unfold rungPow unitsR mgR exR
  have h1 : ¬ (K - f.fractionBits + 1) * f.binade < f.binade := by
    rw [Nat.add_mul, Nat.one_mul]; omega
  rw [if_neg h1, if_neg h1, Nat.mul_mod_left, Nat.mul_div_cancel _ hb]
  show (2 ^ f.fractionBits + 0) * _ = _
  rw [Nat.add_zero, ← Nat.pow_add]; congr 1; omega
theorem rungPow_lt (f : Format) {K : Nat} (h : K - f.fractionBits + 1 < 2 ^ f.exponentBits - 1) : rungPow f K < f.infRung := by
  unfold rungPow Format.infRung
  exact (Nat.mul_lt_mul_right (binade_pos f)).2 h

/-- What is at most 2^K is rounded to at most 2^K. -/
theorem bd_rung (f : Format) {m : Nat} {p q : Int} {K : Nat} (hp : q ≤ p) (hq : q ≤ f.leastPlace) (hK : f.fractionBits ≤ K) (hi : K - f.fractionBits + 1 < 2 ^ f.exponentBits - 1)
    (h : m * 2 ^ (p - q).toNat ≤ 2 ^ K * 2 ^ (f.leastPlace - q).toNat) : rung f m p ≤ rungPow f K := by
  have hlt := rungPow_lt f hi
  exact rung_le_of_le f m p q (rungPow f K) (Nat.le_of_lt hlt) hp hq (by rw [units_rungPow f hK]; exact h)
theorem bd_word (f : Format) (s : Bool) {r K : Nat} (hK : f.fractionBits ≤ K) (hi : K - f.fractionBits + 1 < 2 ^ f.exponentBits - 1) (h : r ≤ rungPow f K) : bdW f (f.word s r) K := by
  have hlt := rungPow_lt f hi
  have hs := f.infRung_lt
  refine ⟨?_, ?_⟩
  · unfold finW; rw [rgW_word f s (by omega)]; omega
  · rw [rgW_word f s (by omega)]
    have := units_lt_iff f (r := rungPow f K) (s := r) (by omega) (by omega)
    rw [units_rungPow f hK] at this
    omega

theorem lo64 (q : Int) (h : q ≤ double.leastPlace) : q ≤ -1074 := h
theorem le64 : double.leastPlace = -1074 := by decide
theorem ok64 {K : Nat} (h : K ≤ 2096) : K - double.fractionBits + 1 < 2 ^ double.exponentBits - 1 := by
  show K - 52 + 1 < 2 ^ 11 - 1; omega
theorem fb64 {K : Nat} (h : 52 ≤ K) : double.fractionBits ≤ K := h

theorem add_units {a b K L : Nat} (h1 : a ≤ 2 ^ K) (h2 : b ≤ 2 ^ L) : a + b ≤ 2 ^ (max K L + 1) := by
  have e1 : 2 ^ K ≤ 2 ^ max K L := Nat.pow_le_pow_right (by omega) (by omega)
  have e2 : 2 ^ L ≤ 2 ^ max K L := Nat.pow_le_pow_right (by omega) (by omega)
  rw [Nat.pow_succ]; omega

theorem bd_add {b c K L : Nat} (hb : bdW double b K) (hc : bdW double c L) (h1 : 52 ≤ K) (h2 : max K L + 1 ≤ 2096) : ∃ r, double.add b c = some r ∧ bdW double r (max K L + 1) := by
  refine ⟨_, add_fin double hb.1 hc.1, ?_⟩
  refine bd_word double _ (fb64 (by omega)) (ok64 h2) ?_
  refine bd_rung double (q := double.leastPlace) (Int.le_refl _) (Int.le_refl _) (fb64 (by omega)) (ok64 h2) ?_
  have e1 := valW_abs double b
  have e2 := valW_abs double c
  have := add_units hb.2 hc.2
  simp only [Int.sub_self, Int.toNat_zero, Nat.pow_zero, Nat.mul_one]
  omega
theorem bd_neg {f : Format} {b K : Nat} (h : bdW f b K) : bdW f (negW f b) K := ⟨finW_negW f h.1, by rw [rgW_negW]; exact h.2⟩
theorem bd_sub {b c K L : Nat} (hb : bdW double b K) (hc : bdW double c L) (h1 : 52 ≤ K) (h2 : max K L + 1 ≤ 2096) : ∃ r, double.sub b c = some r ∧ bdW double r (max K L + 1) := by
  rw [sub_eq_add double (by decide)]; exact bd_add hb (bd_neg hc) h1 h2
theorem bd_mul {b c K L : Nat} (hb : bdW double b K) (hc : bdW double c L) (h1 : 1126 ≤ K + L) (h2 : K + L ≤ 3170) : ∃ r, double.mul b c = some r ∧ bdW double r (K + L - 1074) := by
  refine ⟨_, mul_fin double hb.1 hc.1, ?_⟩
  refine bd_word double _ (fb64 (by omega)) (ok64 (by omega)) ?_
  refine bd_rung double (q := double.leastPlace + double.leastPlace) (Int.le_refl _) (by rw [le64]; omega) (fb64 (by omega)) (ok64 (by omega)) ?_
  have e : (double.leastPlace - (double.leastPlace + double.leastPlace)).toNat = 1074 := by rw [le64]; rfl
  generalize (double.leastPlace - (double.leastPlace + double.leastPlace)).toNat = T at e
  simp only [Int.sub_self, Int.toNat_zero, Nat.pow_zero, Nat.mul_one]
  rw [← Nat.pow_add, show K + L - 1074 + T = K + L by omega, Nat.pow_add]
  exact Nat.mul_le_mul hb.2 hc.2

theorem log2_le_of_lt {n k : Nat} (h : n < 2 ^ (k + 1)) : n.log2 ≤ k := by
  by_cases h0 : n = 0
  · rw [h0]; simp
  · have := log2_lt_of_lt n (k + 1) h0 h; omega

/-- A QUOTIENT: the divisor is at least 2^J. -/
theorem bd_div {b c K J : Nat} (hb : bdW double b K) (hc : finW double c) (hJ : 2 ^ J ≤ unitsR double (rgW double c)) (hJK : J ≤ K) (h2 : K - J + 1075 ≤ 2096) : ∃ r, double.div b c = some r ∧ bdW double r (K - J + 1075) := by
  have hu : unitsR double (rgW double c) = mgR double (rgW double c) * 2 ^ exR double (rgW double c) := rfl
  have hn0 : mgR double (rgW double c) ≠ 0 := by
    intro h0; rw [hu, h0, Nat.zero_mul] at hJ
    have := Nat.two_pow_pos J; omega
  have hbu : unitsR double (rgW double b) = mgR double (rgW double b) * 2 ^ exR double (rgW double b) := rfl
  have hb2 := hb.2
  unfold Format.div
  rw [read_fin double hb.1, read_fin double hc]
  simp only [Datum.quotient, hn0, if_false, Option.map_some, Format.write, nearest_eq]
  refine ⟨_, rfl, ?_⟩
  refine bd_word double _ (fb64 (by omega)) (ok64 h2) ?_
  rw [hu] at hJ
  rw [hbu] at hb2
  generalize mgR double (rgW double b) = m at *
  generalize mgR double (rgW double c) = n at *
  generalize exR double (rgW double b) = i at *
  generalize exR double (rgW double c) = j at *
  generalize hmore : double.fractionBits + 2 + n.log2 - m.log2 = more
  rw [Nat.shiftLeft_eq]
  have hpn : 0 < n := by omega
  -- the value at a common place below all
  refine bd_rung double (q := -1074 - (j : Int) - more - 1 + (-1074)) ?_ (by rw [le64]; omega) (fb64 (by omega)) (ok64 h2) ?_
  · rw [le64]; omega
  · obtain ⟨Y, hY⟩ : ∃ Y : Nat, Y = 2148 := ⟨_, rfl⟩
    have ea : (double.leastPlace + (i : Int) - (double.leastPlace + (j : Int)) - (more : Int) - 1 - (-1074 - (j : Int) - more - 1 + (-1074))).toNat = i + Y := by rw [le64]; omega
    have eb : (double.leastPlace - (-1074 - (j : Int) - more - 1 + (-1074))).toNat = j + more + 1075 := by rw [le64]; omega
    rw [ea, eb]
    -- 2*(D/n)+1 ≤ 4*(D/n) unless m = 0
    by_cases hm0 : m = 0
    · simp [hm0]
    · have hD : n ≤ m * 2 ^ more := by
        have h1 := Nat.log2_self_le hm0
        have h3 : n < 2 ^ (n.log2 + 1) := Nat.lt_log2_self
        have h4 : 2 ^ (n.log2 + 1) ≤ 2 ^ (m.log2 + more) := Nat.pow_le_pow_right (by omega) (by
          have : double.fractionBits = 52 := rfl
          omega)
        have h5 : 2 ^ m.log2 * 2 ^ more ≤ m * 2 ^ more := Nat.mul_le_mul_right _ h1
        rw [← Nat.pow_add] at h5
        omega
      have hq1 : 1 ≤ m * 2 ^ more / n := (Nat.le_div_iff_mul_le hpn).2 (by omega)
      have hq2 : m * 2 ^ more / n * n ≤ m * 2 ^ more := Nat.div_mul_le_self _ _
      have hst : (m * 2 ^ more % n != 0).toNat ≤ 1 := by cases (m * 2 ^ more % n != 0) <;> simp
      have hx : 2 * (m * 2 ^ more / n) + (m * 2 ^ more % n != 0).toNat ≤ 4 * (m * 2 ^ more / n) := by omega
      refine Nat.le_trans (Nat.mul_le_mul_right _ hx) ?_
      generalize m * 2 ^ more / n = d at *
      -- d * n ≤ m * 2^more, m * 2^i ≤ 2^K, 2^J ≤ n * 2^j
      have s1 : d * (n * 2 ^ j) * 2 ^ i ≤ m * 2 ^ i * (2 ^ more * 2 ^ j) := by
        have : d * n * (2 ^ j * 2 ^ i) ≤ m * 2 ^ more * (2 ^ j * 2 ^ i) := Nat.mul_le_mul_right _ hq2
        calc d * (n * 2 ^ j) * 2 ^ i = d * n * (2 ^ j * 2 ^ i) := by ac_rfl
          _ ≤ m * 2 ^ more * (2 ^ j * 2 ^ i) := this
          _ = m * 2 ^ i * (2 ^ more * 2 ^ j) := by ac_rfl
      have s2 : d * 2 ^ J * 2 ^ i ≤ d * (n * 2 ^ j) * 2 ^ i := Nat.mul_le_mul_right _ (Nat.mul_le_mul_left _ hJ)
      have s3 : m * 2 ^ i * (2 ^ more * 2 ^ j) ≤ 2 ^ K * (2 ^ more * 2 ^ j) := Nat.mul_le_mul_right _ hb2
      have s4 : d * 2 ^ J * 2 ^ i ≤ 2 ^ K * (2 ^ more * 2 ^ j) := by omega
      have hJp : 0 < 2 ^ J := Nat.two_pow_pos J
      have goal2 : 4 * d * 2 ^ (i + Y) * 2 ^ J ≤ 2 ^ (K - J + 1075) * 2 ^ (j + more + 1075) * 2 ^ J := by
        have l : 4 * d * 2 ^ (i + Y) * 2 ^ J = (d * 2 ^ J * 2 ^ i) * 2 ^ (2 + Y) := by
          rw [Nat.pow_add 2 i Y, Nat.pow_add 2 2 Y]
          have : (4 : Nat) = 2 ^ 2 := rfl
          rw [this]; ac_rfl
        have r : 2 ^ (K - J + 1075) * 2 ^ (j + more + 1075) * 2 ^ J = 2 ^ K * (2 ^ more * 2 ^ j) * 2 ^ (2 + Y) := by
          rw [← Nat.pow_add, ← Nat.pow_add, ← Nat.pow_add, ← Nat.pow_add, ← Nat.pow_add]
          congr 1; omega
        rw [l, r]
        exact Nat.mul_le_mul_right _ s4
      exact Nat.le_of_mul_le_mul_right goal2 hJp
end
section
theorem bd_fin {b : Nat} (h : finW double b) : bdW double b 2098 := by
  refine ⟨h, ?_⟩
  have h1 := units_lt double h (Nat.le_refl _)
  have h2 : unitsR double double.infRung = 2 ^ 2098 := by decide +kernel
  unfold finW at h
  exact Nat.le_of_lt (by rw [← h2]; exact h1)
theorem bd_widen {x v : Nat} (hf : finW single x) (h : nz .f64 v = fcv .f32 .f64 x) : bdW double v 1202 := by
  rcases widen_cases x with ⟨_, r, e, h2, h3⟩ | ⟨hi, _⟩ | ⟨hn, _⟩
  · have hn : nanB .f64 v = false := by rw [← nan_nz, h, nan_widen]; exact nanB_fin (k := .f32) hf
    rw [nz_num hn, e] at h
    rw [h]
    have hs : r < double.signWeight := Nat.lt_trans h2 double.infRung_lt
    refine ⟨by unfold finW; rw [rgW_word double _ hs]; exact h2, ?_⟩
    rw [rgW_word double _ hs, h3]
    have hlt := u32_lt hf
    obtain ⟨A, hA⟩ : ∃ A, A = 277 := ⟨_, rfl⟩
    obtain ⟨B, hB⟩ : ∃ B, B = 925 := ⟨_, rfl⟩
    rw [← hA] at hlt
    rw [← hB, show 1202 = A + B by omega, Nat.pow_add]
    exact Nat.mul_le_mul_right _ (Nat.le_of_lt hlt)
  · unfold finW at hf; omega
  · have := (nanB_iff .f32 x).1 hn
    have e1 : FloatKind.f32.format.infRung = single.infRung := rfl
    have e2 : rgW FloatKind.f32.format x = rgW single x := rfl
    unfold finW at hf; omega

/-- What is at most 2^127 has its 32-bit number. -/
theorem narrows_bd {v K : Nat} (h : bdW double v K) (hK : K ≤ 1201) : narrows .f64 .f32 v := by
  right
  have hd : FloatKind.f64.decode v = .number (sgW double v) (mgR double (rgW double v)) (double.leastPlace + exR double (rgW double v)) := read_fin double h.1
  have hu : mgR double (rgW double v) * 2 ^ exR double (rgW double v) ≤ 2 ^ K := h.2
  obtain ⟨A, hA⟩ : ∃ A, A = 276 := ⟨_, rfl⟩
  have hr : rung single (mgR double (rgW double v)) (double.leastPlace + exR double (rgW double v)) ≤ rungPow single A := by
    refine bd_rung single (q := double.leastPlace) (by omega) (by decide) (by rw [hA]; decide) (by rw [hA]; decide) ?_
    have e1 : (double.leastPlace + (exR double (rgW double v) : Int) - double.leastPlace).toNat = exR double (rgW double v) := by omega
    have e2 : (single.leastPlace - double.leastPlace).toNat = 925 := by decide
    rw [e1, e2]
    generalize hT : (925 : Nat) = T
    rw [← Nat.pow_add]
    exact Nat.le_trans hu (Nat.pow_le_pow_right (by omega) (by omega))
  have hlt : rungPow single A < single.infRung := rungPow_lt single (by rw [hA]; decide)
  have he : FloatKind.f32.encode (.number (sgW double v) (mgR double (rgW double v)) (double.leastPlace + exR double (rgW double v))) = single.word (sgW double v) (rung single (mgR double (rgW double v)) (double.leastPlace + exR double (rgW double v))) := nearest_eq ..
  have hf : finW single (single.word (sgW double v) (rung single (mgR double (rgW double v)) (double.leastPlace + exR double (rgW double v)))) := by
    unfold finW; rw [rgW_word _ _ (rung_lt_sw _ _ _)]; omega
  have hd2 : FloatKind.f32.decode (single.word (sgW double v) (rung single (mgR double (rgW double v)) (double.leastPlace + exR double (rgW double v)))) = _ := read_fin single hf
  unfold floatToFloatBits
  rw [if_neg (by decide), hd]
  simp only [he, hd2]
  rfl
theorem narrows_inf {v : Nat} (h : rgW double v = double.infRung) : narrows .f64 .f32 v := by
  right
  have hd : FloatKind.f64.decode v = .infinity (sgW double v) := read_inf double (by decide) h
  unfold floatToFloatBits
  rw [if_neg (by decide), hd]; rfl
theorem narrows_nan {v : Nat} (h : nanB .f64 v = true) : narrows .f64 .f32 v := .inl h

theorem rootFrom_lt (n : Nat) : ∀ t r, Datum.rootFrom n t r < r + 2 ^ t := by
  intro t
  induction t with
  | zero => intro r; simp [Datum.rootFrom]
  | succ t ih =>
    intro r
    simp only [Datum.rootFrom, Nat.shiftLeft_eq, Nat.one_mul]
    have hp : 2 ^ (t + 1) = 2 * 2 ^ t := by rw [Nat.pow_succ]; omega
    split
    · have := ih (r + 2 ^ t); omega
    · have := ih r; omega

/-- The root, all NaNs made one. -/
def fsq (x : Nat) : Nat := (double.sqrt x).getD (cnan .f64)

theorem bd_sqrt {b j : Nat} (h : bdW double b (1182 + 2 * j)) (hj : j ≤ 900) : double.sqrt b = none ∨ ∃ r, double.sqrt b = some r ∧ bdW double r (1129 + j) := by
  have hu : mgR double (rgW double b) * 2 ^ exR double (rgW double b) ≤ 2 ^ (1182 + 2 * j) := h.2
  unfold Format.sqrt
  rw [read_fin double h.1]
  generalize mgR double (rgW double b) = m at *
  generalize exR double (rgW double b) = i at *
  simp only [Datum.root]
  by_cases hm0 : m = 0
  · right
    simp only [hm0, if_true, Option.map_some, Format.write, nearest_eq]
    refine ⟨_, rfl, ?_⟩
    refine bd_word double _ (fb64 (by omega)) (ok64 (by omega)) ?_
    have : rung double 0 (double.leastPlace + i) = 0 := by unfold rung; rw [rung0_zero]; omega
    rw [this]; exact Nat.zero_le _
  · simp only [hm0, if_false]
    by_cases hs : sgW double b = true
    · left; simp [hs]
    · right
      simp only [hs, Bool.false_eq_true, if_false, Option.map_some, Format.write, nearest_eq]
      refine ⟨_, rfl, ?_⟩
      refine bd_word double _ (fb64 (by omega)) (ok64 (by omega)) ?_
      have hfb : double.fractionBits + 2 = 54 := rfl
      rw [hfb, le64]
      generalize hmore : 2 * 54 - m.log2 + ((-1074 + (i : Int) - ((2 * 54 - m.log2 : Nat) : Int)) % 2).toNat = more
      have hlog : m.log2 + i ≤ 1182 + 2 * j := by
        have h1 := Nat.log2_self_le hm0
        have h2 : 2 ^ m.log2 * 2 ^ i ≤ m * 2 ^ i := Nat.mul_le_mul_right _ h1
        rw [← Nat.pow_add] at h2
        exact (Nat.pow_le_pow_iff_right (by omega)).1 (Nat.le_trans h2 hu)
      have hmod : ((-1074 + (i : Int) - ((2 * 54 - m.log2 : Nat) : Int)) % 2).toNat ≤ 1 := by omega
      have hbig : m * 2 ^ more ≠ 0 := by
        rw [Nat.mul_ne_zero_iff]; exact ⟨hm0, by have := Nat.two_pow_pos more; omega⟩
      rw [Nat.shiftLeft_eq]
      have hl2 : (m * 2 ^ more).log2 = m.log2 + more := log2_mul_pow _ _ hm0
      have hw := rootFrom_lt (m * 2 ^ more) ((m * 2 ^ more).log2 / 2 + 1) 0
      generalize Datum.rootFrom (m * 2 ^ more) ((m * 2 ^ more).log2 / 2 + 1) 0 = whole at *
      rw [hl2] at hw
      have hst : (whole * whole != m * 2 ^ more).toNat ≤ 1 := by cases (whole * whole != m * 2 ^ more) <;> simp
      generalize (whole * whole != m * 2 ^ more).toNat = st at *
      have hlt : 2 * whole + st ≤ 2 ^ ((m.log2 + more) / 2 + 2) := by
        have e : 2 ^ ((m.log2 + more) / 2 + 2) = 2 * 2 ^ ((m.log2 + more) / 2 + 1) := by rw [Nat.pow_succ 2 ((m.log2 + more) / 2 + 1)]; omega
        omega
      -- at the place (i - more)/2 - 1
      refine bd_rung double (q := (-1074 + (i : Int) - more) / 2 - 1 - 2098) (by omega) (by rw [le64]; omega) (fb64 (by omega)) (ok64 (by omega)) ?_
      have ea : ((-1074 + (i : Int) - (more : Int)) / 2 - 1 - ((-1074 + (i : Int) - more) / 2 - 1 - 2098)).toNat = 2098 := by omega
      rw [ea, le64]
      generalize hY : (2098 : Nat) = Y at *
      refine Nat.le_trans (Nat.mul_le_mul_right _ hlt) ?_
      rw [← Nat.pow_add, ← Nat.pow_add]
      exact Nat.pow_le_pow_right (by omega) (by omega)

/-- THE ROOT OF A NUMBER BELOW 2^128, NARROWED: nothing is asked but a NaN's bits. -/
theorem narrows_root {x v u : Nat} (hv : nz .f64 v = fcv .f32 .f64 x) (hu : nz .f64 u = fsq v) : narrows .f64 .f32 u := by
  have hnone : double.sqrt v = none → narrows .f64 .f32 u := by
    intro h
    refine narrows_nan ?_
    rw [← nan_nz, hu]; unfold fsq; rw [h]; exact nanB_cnan .f64
  by_cases hf : finW single x
  · rcases bd_sqrt (j := 10) (bd_widen hf hv) (by omega) with h | ⟨r, h, hb⟩
    · exact hnone h
    · have e : fsq v = r := by unfold fsq; rw [h]; rfl
      have hn : nanB .f64 u = false := by rw [← nan_nz, hu, e]; exact nanB_fin (k := .f64) hb.1
      rw [nz_num hn, e] at hu
      rw [hu]; exact narrows_bd hb (by omega)
  · rcases widen_cases x with ⟨h, _⟩ | ⟨_, e⟩ | ⟨h, e⟩
    · exact absurd h hf
    · have hn : nanB .f64 v = false := by rw [← nan_nz, hv, e]; exact nanB_word .f64 _ (Nat.le_refl _)
      rw [nz_num hn, e] at hv
      have hr : rgW double v = double.infRung := by rw [hv]; exact rgW_word double _ double.infRung_lt
      by_cases hs : sgW double v = true
      · refine hnone ?_
        unfold Format.sqrt; rw [read_inf double (by decide) hr, hs]; rfl
      · have hq : double.sqrt v = some (double.word false double.infRung) := by
          unfold Format.sqrt; rw [read_inf double (by decide) hr]; simp [Datum.root, hs, Format.write]
        have e2 : fsq v = double.word false double.infRung := by unfold fsq; rw [hq]; rfl
        have hn2 : nanB .f64 u = false := by rw [← nan_nz, hu, e2]; exact nanB_word .f64 _ (Nat.le_refl _)
        rw [nz_num hn2, e2] at hu
        refine narrows_inf ?_
        rw [hu]; exact rgW_word double _ double.infRung_lt
    · refine hnone ?_
      have hn : nanB .f64 v = true := by rw [← nan_nz, hv, e]; exact nanB_cnan .f64
      obtain ⟨s, t, hd⟩ := decode_nan hn
      have hd' : double.read v = .nan s t := hd
      unfold Format.sqrt; rw [hd']; rfl
theorem fsq_nz (v : Nat) : fsq (nz .f64 v) = fsq v := by
  rcases nz_cases .f64 v with ⟨h, e⟩ | ⟨_, e⟩
  · rw [e]
    obtain ⟨s, t, hd⟩ := decode_nan h
    obtain ⟨s2, t2, hd2⟩ := decode_nan (nanB_cnan .f64)
    have a : double.read v = .nan s t := hd
    have b : double.read (cnan .f64) = .nan s2 t2 := hd2
    unfold fsq Format.sqrt; rw [a, b]; rfl
  · rw [e]
theorem nanB_sqrt {v r : Nat} (h : double.sqrt v = some r) : nanB .f64 r = false := by
  unfold Format.sqrt at h
  obtain ⟨d, h1, rfl⟩ := Option.map_eq_some_iff.1 h
  have hd : d.isNaN = false := by
    cases hr : double.read v with
    | nan s t => rw [hr] at h1; cases h1
    | infinity s => rw [hr] at h1; simp only [Datum.root] at h1; split at h1 <;> cases h1; rfl
    | number s m i =>
      rw [hr] at h1; simp only [Datum.root] at h1
      split at h1
      · cases h1; rfl
      · split at h1
        · cases h1
        · cases h1; rfl
  cases d with
  | number s m e => simp only [Format.write, nearest_eq]; exact nanB_word .f64 s (rung_le_inf _ _ _)
  | infinity s => exact nanB_word .f64 s (Nat.le_refl _)
  | nan s t => cases hd
theorem sqrt_eq (x : Nat) : Extern.MathSqrt.sqrt #[.float .f64 x] = (match FloatKind.f64.format.sqrt x with
    | some r => (pure (.float .f64 r) : Sem Value)
    | none => do pure (.float .f64 (← choose (.nanBits .f64 x x)))) := rfl
theorem run_sqrt {P : Program} (w : World) (x : Nat) : ∃ v n, (Extern.MathSqrt.sqrt #[.float .f64 x]).run P w = .ok (.float .f64 v) (w.drewN n) ∧ nz .f64 v = fsq x ∧ v < 2 ^ 64 := by
  cases h : double.sqrt x with
  | some r =>
    have h' : FloatKind.f64.format.sqrt x = some r := h
    refine ⟨r, 0, by rw [sqrt_eq, h']; rfl, ?_, double.sqrt_lt h⟩
    unfold fsq; rw [h]; exact nz_num (nanB_sqrt h)
  | none =>
    have h' : FloatKind.f64.format.sqrt x = none := h
    obtain ⟨h1, h2, h3⟩ := drawn_nan .f64 (.nanBits .f64 x x) (w.tape w.drawn (.nanBits .f64 x x)) (.inl ⟨x, x, rfl⟩)
    refine ⟨_, 1, ?_, ?_, h2⟩
    · rw [sqrt_eq, h']; simp [choose, Sem.run, h3, World.drewN]
    · unfold fsq; rw [h]; exact nz_nan h1
end
section
theorem below_drewN {B : Nat} {a w : World} (h : Below B a w) (n : Nat) : Below B a (w.drewN n) := ⟨h.os, h.tape, h.output, h.size, h.block⟩
theorem below_of_drewN {B : Nat} {a w : World} {n : Nat} (h : Below B (a.drewN n) w) : Below B a w := ⟨h.os, h.tape, h.output, h.size, h.block⟩
theorem below_start (w : World) (n : Nat) : Below w.heap.size w (w.drewN n) := below_drewN (Below.refl _ _) n
theorem below_alloc (w : World) (o : Obj) (n : Nat) : Below w.heap.size w ((w.alloc o).drewN n) := below_drewN ((Below.refl _ _).alloc (Nat.le_refl _) _) n

/-- A float and a bool; nothing that was there has turned. -/
def RetFBW (k : FloatKind) (E : Nat) (b : Bool) (w : World) (e : Ending) (w' : World) : Prop := ∃ v, e = .returned (.tuple #[.float k v, .bool b]) ∧ Hid (nz k v = E) ∧ Hid (v < 2 ^ k.format.width) ∧ Below w.heap.size w w'
theorem RetFB.below {k : FloatKind} {E : Nat} {b : Bool} {w w' : World} {e : Ending} (h : RetFB k E b w e w') : RetFBW k E b w e w' := by
  obtain ⟨v, n, he, h1, h2, rfl⟩ := h
  exact ⟨v, he, h1, h2, below_start w n⟩

/-- A number, if all is well. -/
def finN (ok : Bool) (x : Nat) : Nat := if ok && finB .f32 x then x else 0
theorem finN_nz (ok : Bool) (x : Nat) : finN ok (nz .f32 x) = finN ok x := by
  unfold finN; rw [fin_nz]
  cases hf : finB .f32 x
  · simp
  · rw [nz_num (nanB_fin (k := .f32) (of_decide_eq_true hf))]
theorem nz_finN (ok : Bool) (x : Nat) : nz .f32 (finN ok x) = finN ok x := by
  unfold finN
  cases hf : finB .f32 x
  · simp only [Bool.and_false, Bool.false_eq_true, if_false]; exact nz_num (nanB_fin (finW_zero .f32))
  · cases ok
    · exact nz_num (nanB_fin (finW_zero .f32))
    · exact nz_num (nanB_fin (k := .f32) (of_decide_eq_true hf))
theorem finN_of {ok : Bool} {x E : Nat} (h : nz .f32 x = E) : finN ok x = finN ok E := by rw [← h, finN_nz]
theorem finB_of {k : FloatKind} {x E : Nat} (h : nz k x = E) : finB k x = finB k E := by rw [← h, fin_nz]
end
section
/-- HALF: 'x / 2' is '0.5 * x'. -/
theorem half_bits (x : Nat) : floatBits .quo .f32 x 1073741824 = floatBits .mul .f32 1056964608 x := by
  by_cases hn : nanB .f32 x = true
  · rw [bits_nan_left .quo _ hn, bits_nan_right .mul _ hn]
  have htwo : single.read 1073741824 = .number false (2 ^ 23) (-22) := by decide +kernel
  have hhalf : single.read 1056964608 = .number false (2 ^ 23) (-24) := by decide +kernel
  show (single.div x 1073741824) = single.mul 1056964608 x
  unfold Format.div Format.mul
  rw [htwo, hhalf]
  by_cases hf : finW single x
  · rw [read_fin single hf]
    have hm : mgR single (rgW single x) < 2 ^ 24 := by
      unfold mgR
      have : rgW single x % single.binade < single.binade := Nat.mod_lt _ (binade_pos _)
      have h2 : single.binade = 2 ^ 23 := rfl
      split <;> omega
    generalize mgR single (rgW single x) = m at *
    generalize single.leastPlace + (exR single (rgW single x) : Int) = i
    have hl : m.log2 ≤ 23 := log2_le_of_lt hm
    have h23 : (2 ^ 23 : Nat).log2 = 23 := by decide +kernel
    have hne : ¬ (2 ^ 23 : Nat) = 0 := by decide
    have hfb : single.fractionBits + 2 = 25 := rfl
    simp only [Datum.quotient, Datum.product, hne, if_false, Option.map_some, Format.write, nearest_eq, hfb, h23]
    obtain ⟨t, ht⟩ : ∃ t, 25 + 23 - m.log2 = 23 + t := ⟨25 - m.log2, by omega⟩
    rw [ht, Nat.shiftLeft_eq]
    have e1 : m * 2 ^ (23 + t) = m * 2 ^ t * 2 ^ 23 := by rw [Nat.pow_add]; ac_rfl
    have hd : m * 2 ^ (23 + t) / 2 ^ 23 = m * 2 ^ t := by rw [e1, Nat.mul_div_cancel _ (by decide)]
    have hr : m * 2 ^ (23 + t) % 2 ^ 23 = 0 := by rw [e1, Nat.mul_mod_left]
    rw [hd, hr]
    have e2 : 2 * (m * 2 ^ t) + ((0 : Nat) != 0).toNat = m * 2 ^ (t + 1) := by rw [Nat.pow_succ]; simp; ac_rfl
    rw [e2]
    have r1 := rung_scale single m (i - 1) (t + 1)
    have r2 := rung_scale single m (i - 1) 23
    rw [show i - (-22) - ((23 + t : Nat) : Int) - 1 = i - 1 - ((t + 1 : Nat) : Int) by omega, r1, Nat.mul_comm (2 ^ 23) m, show (-24 : Int) + i = i - 1 - ((23 : Nat) : Int) by omega, r2]
    simp
  · have hi : rgW single x = single.infRung := by
      unfold finW at hf
      by_cases e : rgW single x = single.infRung
      · exact e
      · exact absurd ((nanB_iff .f32 x).2 (show single.infRung < rgW single x by omega)) hn
    rw [read_inf single (by decide) hi]
    have hne : ¬ (2 ^ 23 : Nat) = 0 := by decide
    simp [Datum.quotient, Datum.product]
theorem half_eq (x : Nat) : fop .quo .f32 x 1073741824 = fop .mul .f32 1056964608 x := by unfold fop; rw [half_bits]
end
section
section
variable {H : Type} {enc : TypeId × Value → H} {P : Program}
/-- The row's post where nothing that was there has turned. -/
theorem post_of_below {f : Func} {s : ChangeSpec} {apart fresh handsOn : Bool} {W W' : World} {args : Array Value} {v : Value} {ds gs : List (DataW H)} {before pa pv : List MemPlace}
    (hW : DataW.Whole enc P f.params.toList s.vars apart W args.toList ds gs before)
    (hres : ∀ (b : Nat) (sp : Nat → Bool) (hd : Bool), DataW.TrodAll enc P W' b sp hd f.resultTypes.toList (v.resultList f.resultTypes.size) (s.fn H (ds ++ gs)).results [])
    (hargs : ∀ sp : Nat → Bool, (∀ p ∈ before, sp p.block = true) → DataW.TrodAll enc P W' 0 sp true f.params.toList args.toList (s.fn H (ds ++ gs)).args pa)
    (hvars : ∀ sp : Nat → Bool, (∀ p ∈ before, sp p.block = true) → DataW.TrodVars enc P W' sp s.vars (s.fn H (ds ++ gs)).vars pv)
    (hb : Below W.heap.size W W') :
    s.post enc P f apart fresh handsOn false W args v W' := by
  have hold : ∀ p ∈ before, (fun b => decide (b < W.heap.size)) p.block = true := fun p hp => by simpa using hW.lt p hp
  exact ⟨ds, gs, before, [], pa, pv, hW, hres _ _ _, hargs _ hold, hvars _ hold, hb.frame _, fun h => by cases h⟩
end
end
end Go.Proofs.Ytocclddnaaaohaa.Fl
