/- The operations on floats in a form that the kernel evaluates fast. No program. No condition. -/
import Derived.Test.YtocclddnaaaohaaFs
namespace Go.Proofs.Ytocclddnaaaohaa.Fl
open Go Ieee

/-- f of x, x evaluated first. -/
def frc {α : Type} (x : Nat) (f : Nat → α) : α := Nat.rec (f 0) (fun n _ => f (Nat.succ n)) x
theorem frc_eq {α : Type} (x : Nat) (f : Nat → α) : frc x f = f x := by cases x <;> rfl
/-- The rung of a number of units below the least place by K digits. -/
def rndG (fb inf n K : Nat) : Nat :=
  bif Nat.beq n 0 then 0 else
  frc (Nat.sub (Nat.sub (Nat.log2 n) fb) K) fun e =>
  frc (Nat.pow 2 (Nat.add K e)) fun g =>
  frc (Nat.div n g) fun q =>
  frc (Nat.mul 2 (Nat.mod n g)) fun m =>
  frc (Nat.add (Nat.mul e (Nat.pow 2 fb)) (bif Nat.ble (Nat.succ g) m then Nat.succ q else bif Nat.beq g m then Nat.add q (Nat.mod q 2) else q)) fun r =>
  bif Nat.ble inf r then inf else r
theorem beq_dec (a b : Nat) : Nat.beq a b = decide (a = b) := by
  rw [Bool.eq_iff_iff, Nat.beq_eq]; simp
theorem ble_dec (a b : Nat) : Nat.ble a b = decide (a ≤ b) := by
  rw [Bool.eq_iff_iff, Nat.ble_eq]; simp
theorem cut_form (n g : Nat) : cutE n g = bif Nat.ble (Nat.succ g) (2 * (n % g)) then Nat.succ (n / g) else bif Nat.beq g (2 * (n % g)) then n / g + n / g % 2 else n / g := by
  unfold cutE
  rw [ble_dec, beq_dec]
  by_cases h1 : g < 2 * (n % g)
  · have : g.succ ≤ 2 * (n % g) := h1
    simp [h1, this]
  · have h1' : ¬ g.succ ≤ 2 * (n % g) := h1
    simp only [h1, h1', decide_false, Bool.false_or, cond_false]
    by_cases h2 : g = 2 * (n % g)
    · rw [← h2]
      rcases Nat.mod_two_eq_zero_or_one (n / g) with h3 | h3 <;> simp [h3]
    · simp [h2]
theorem min_form (Z i : Nat) : (bif Nat.ble i Z then i else Z) = min Z i := by
  rw [ble_dec]
  by_cases h : i ≤ Z
  · rw [decide_eq_true h, cond_true]; omega
  · rw [decide_eq_false h, cond_false]; omega
theorem rnd_eq (f : Format) (n K : Nat) : rung f n (f.leastPlace - K) = rndG f.fractionBits f.infRung n K := by
  unfold rndG
  simp only [frc_eq]
  unfold rung rung0
  by_cases h : n = 0
  · subst h; simp [beq_dec]
  · have e1 : Nat.beq n 0 = false := by rw [beq_dec]; simpa using h
    have hl : lastP f n (f.leastPlace - K) = f.leastPlace + ((n.log2 - f.fractionBits - K : Nat) : Int) := by unfold lastP; omega
    rw [if_neg h, e1, cond_false, hl]
    have a1 : (f.leastPlace + ((n.log2 - f.fractionBits - K : Nat) : Int) - f.leastPlace).toNat = n.log2 - f.fractionBits - K := by omega
    have a2 : (f.leastPlace - (K : Int) - (f.leastPlace + ((n.log2 - f.fractionBits - K : Nat) : Int))).toNat = 0 := by omega
    have a3 : (f.leastPlace + ((n.log2 - f.fractionBits - K : Nat) : Int) - (f.leastPlace - (K : Int))).toNat = K + (n.log2 - f.fractionBits - K) := by omega
    rw [a1, a2, a3, Nat.pow_zero, Nat.mul_one, cut_form]
    exact (min_form _ _).symm
/-- A rung's units. -/
def uG (p r : Nat) : Nat := bif Nat.ble p r then Nat.mul (Nat.add p (Nat.mod r p)) (Nat.pow 2 (Nat.sub (Nat.div r p) 1)) else r
theorem uG_eq (f : Format) (r : Nat) : uG f.binade r = unitsR f r := by
  unfold uG unitsR mgR exR
  rw [ble_dec]
  by_cases h : r < f.binade
  · have : ¬ f.binade ≤ r := by omega
    simp [h, this]
  · have h2 : f.binade ≤ r := by omega
    rw [decide_eq_true h2, cond_true, if_neg h, if_neg h]; rfl
def sg64 (x : Nat) : Bool := Nat.beq (Nat.mod (Nat.div x 9223372036854775808) 2) 1
theorem sg64_eq (x : Nat) : sg64 x = sgW double x := by
  rw [Bool.eq_iff_iff]
  unfold sg64 sgW
  rw [Nat.beq_eq, beq_iff_eq]
  exact Iff.rfl
def wd64 (s : Bool) (r : Nat) : Nat := bif s then Nat.add 9223372036854775808 r else r
theorem wd64_eq (s : Bool) (r : Nat) : wd64 s r = double.word s r := by cases s <;> rfl
def rnd64 (n K : Nat) : Nat := rndG 52 9218868437227405312 n K
theorem rnd64_eq (n K : Nat) : rung double n (double.leastPlace - K) = rnd64 n K := rnd_eq double n K
def u64 (r : Nat) : Nat := uG 4503599627370496 r
theorem u64_eq (r : Nat) : u64 r = unitsR double r := uG_eq double r
theorem rg64 (x : Nat) : Nat.mod x 9223372036854775808 = rgW double x := rfl
theorem fin64 (x : Nat) : Nat.ble 9218868437227405312 (Nat.mod x 9223372036854775808) = !decide (finW double x) := by
  rw [ble_dec, rg64]
  by_cases h : finW double x
  · have h1 : rgW double x < 9218868437227405312 := h
    have h2 : ¬ 9218868437227405312 ≤ rgW double x := by omega
    rw [decide_eq_true h, decide_eq_false h2]; rfl
  · have h1 : ¬ rgW double x < 9218868437227405312 := h
    have h2 : 9218868437227405312 ≤ rgW double x := by omega
    rw [decide_eq_false h, decide_eq_true h2]; rfl

/-- Rounds n * 2^t units to the format. -/
def rs (fb inf n t : Nat) : Nat :=
  frc (Nat.log2 n) fun L =>
  frc (Nat.mul (Nat.sub (Nat.add L t) fb) (Nat.pow 2 fb)) fun X =>
  frc (Nat.add X (bif Nat.ble L fb then Nat.mul n (Nat.pow 2 (Nat.sub fb L)) else
    frc (Nat.pow 2 (Nat.sub L fb)) fun g =>
    frc (Nat.div n g) fun q =>
    frc (Nat.mul 2 (Nat.mod n g)) fun m =>
    bif Nat.ble (Nat.succ g) m then Nat.succ q else bif Nat.beq g m then Nat.add q (Nat.mod q 2) else q)) fun r =>
  bif Nat.ble inf r then inf else r
theorem rs_eq (f : Format) (n S : Nat) (hn : n ≠ 0) (hg : f.fractionBits ≤ n.log2 + S) : rung f (n * 2 ^ S) f.leastPlace = rs f.fractionBits f.infRung n S := by
  have e0 : rung f (n * 2 ^ S) f.leastPlace = rung f n (f.leastPlace + S) := by
    have := rung_scale f n (f.leastPlace + S) S
    rw [show f.leastPlace + (S : Int) - (S : Int) = f.leastPlace by omega] at this
    exact this
  rw [e0]
  unfold rs
  simp only [frc_eq]
  unfold rung rung0
  have hl : lastP f n (f.leastPlace + S) = f.leastPlace + ((n.log2 + S - f.fractionBits : Nat) : Int) := by unfold lastP; omega
  rw [if_neg hn, hl]
  have a1 : (f.leastPlace + ((n.log2 + S - f.fractionBits : Nat) : Int) - f.leastPlace).toNat = n.log2 + S - f.fractionBits := by omega
  have a2 : (f.leastPlace + (S : Int) - (f.leastPlace + ((n.log2 + S - f.fractionBits : Nat) : Int))).toNat = f.fractionBits - n.log2 := by omega
  have a3 : (f.leastPlace + ((n.log2 + S - f.fractionBits : Nat) : Int) - (f.leastPlace + (S : Int))).toNat = n.log2 - f.fractionBits := by omega
  rw [a1, a2, a3]
  refine Eq.trans ?_ (min_form _ _).symm
  congr 1
  show (n.log2 + S - f.fractionBits) * f.binade + _ = (n.log2 + S - f.fractionBits) * 2 ^ f.fractionBits + _
  congr 1
  rw [ble_dec]
  by_cases h : n.log2 ≤ f.fractionBits
  · rw [decide_eq_true h, cond_true, Nat.sub_eq_zero_of_le h, Nat.pow_zero, cutE_one]; rfl
  · rw [decide_eq_false h, cond_false, Nat.sub_eq_zero_of_le (by omega : f.fractionBits ≤ n.log2), Nat.pow_zero, Nat.mul_one, cut_form]; rfl
theorem rung_zero (f : Format) (p : Int) : rung f 0 p = 0 := by unfold rung rung0; simp
theorem sum_form (sx sy : Bool) (a b : Nat) (va vb : Int) (ha : va = if sx then -(a : Int) else a) (hb : vb = if sy then -(b : Int) else b) :
    double.word (if va + vb = 0 then sx && sy else decide (va + vb < 0)) (rung double (va + vb).natAbs double.leastPlace) =
      (bif sx ^^ sy then
        bif Nat.ble (Nat.succ b) a then double.word sx (rung double (a - b) double.leastPlace)
        else bif Nat.ble (Nat.succ a) b then double.word (!sx) (rung double (b - a) double.leastPlace)
        else 0
      else double.word sx (rung double (a + b) double.leastPlace)) := by
  rw [ble_dec, ble_dec]
  have w0 : ∀ s, double.word s 0 = if s then 2 ^ 63 else 0 := fun s => by cases s <;> rfl
  cases sx <;> cases sy
  · simp only [Bool.false_eq_true, if_false] at ha hb
    subst ha hb
    have e1 : ((a : Int) + b).natAbs = a + b := by omega
    have e2 : ¬ ((a : Int) + b < 0) := by omega
    simp [e1, e2]
  · simp only [Bool.false_eq_true, if_false, if_true] at ha hb
    subst ha hb
    rcases Nat.lt_trichotomy a b with h | h | h
    · have e1 : ((a : Int) + -(b : Int)).natAbs = b - a := by omega
      have e2 : ((a : Int) + -(b : Int) < 0) := by omega
      have e3 : ¬ ((a : Int) + -(b : Int) = 0) := by omega
      have h1 : ¬ b.succ ≤ a := by omega
      have h2 : a.succ ≤ b := by omega
      simp [e1, e2, e3, h1, h2]
    · subst h
      have e1 : ((a : Int) + -(a : Int)) = 0 := by omega
      have h1 : ¬ a + 1 ≤ a := by omega
      simp [e1, rung_zero, h1]
      rfl
    · have e1 : ((a : Int) + -(b : Int)).natAbs = a - b := by omega
      have e2 : ¬ ((a : Int) + -(b : Int) < 0) := by omega
      have e3 : ¬ ((a : Int) + -(b : Int) = 0) := by omega
      have h1 : b.succ ≤ a := by omega
      simp [e1, e2, e3, h1]
  · simp only [Bool.false_eq_true, if_false, if_true] at ha hb
    subst ha hb
    rcases Nat.lt_trichotomy a b with h | h | h
    · have e1 : (-(a : Int) + (b : Int)).natAbs = b - a := by omega
      have e2 : ¬ (-(a : Int) + (b : Int) < 0) := by omega
      have e3 : ¬ (-(a : Int) + (b : Int) = 0) := by omega
      have h1 : ¬ b.succ ≤ a := by omega
      have h2 : a.succ ≤ b := by omega
      simp [e1, e2, e3, h1, h2]
    · subst h
      have e1 : (-(a : Int) + (a : Int)) = 0 := by omega
      have h1 : ¬ a + 1 ≤ a := by omega
      simp [e1, rung_zero, h1]
      rfl
    · have e1 : (-(a : Int) + (b : Int)).natAbs = a - b := by omega
      have e2 : (-(a : Int) + (b : Int) < 0) := by omega
      have e3 : ¬ (-(a : Int) + (b : Int) = 0) := by omega
      have h1 : b.succ ≤ a := by omega
      simp [e1, e2, e3, h1]
  · simp only [if_true] at ha hb
    subst ha hb
    have e1 : (-(a : Int) + -(b : Int)).natAbs = a + b := by omega
    by_cases h0 : a + b = 0
    · have e3 : (-(a : Int) + -(b : Int) = 0) := by omega
      simp [e3, h0]
    · have e3 : ¬ (-(a : Int) + -(b : Int) = 0) := by omega
      have e2 : (-(a : Int) + -(b : Int) < 0) := by omega
      simp [e1, e2, e3]
theorem nlog {n k : Nat} (h : 2 ^ k ≤ n) : k ≤ n.log2 := (Nat.le_log2 (by have := Nat.two_pow_pos k; omega)).2 h
theorem units_norm {a i : Nat} (hi : a / 4503599627370496 = i) (h : 1 ≤ i) : unitsR double a = (4503599627370496 + a % 4503599627370496) * 2 ^ (i - 1) := by
  have hb : double.binade = 4503599627370496 := rfl
  have h1 : ¬ a < double.binade := by rw [hb]; omega
  unfold unitsR mgR exR
  rw [if_neg h1, if_neg h1, hb, hi]
theorem fin_norm {x i : Nat} (hi : x % 9223372036854775808 / 4503599627370496 = i) (h : i ≤ 2046) : finW double x := by
  show x % 9223372036854775808 < 9218868437227405312
  omega
theorem rung_mul (m k i j T : Nat) (hT : double.leastPlace = -(T : Int)) (h1 : 1 ≤ i) (h2 : 1 ≤ j) (h : T + 2 ≤ i + j) : rung double (m * 2 ^ (i - 1) * (k * 2 ^ (j - 1))) (double.leastPlace + double.leastPlace) = rung double (m * k * 2 ^ (i + j - (T + 2))) double.leastPlace := by
  have e1 : m * 2 ^ (i - 1) * (k * 2 ^ (j - 1)) = (m * k * 2 ^ (i + j - (T + 2))) * 2 ^ T := by
    have : m * 2 ^ (i - 1) * (k * 2 ^ (j - 1)) = m * k * (2 ^ (i - 1) * 2 ^ (j - 1)) := by ac_rfl
    rw [this, Nat.mul_assoc (m * k), ← Nat.pow_add, ← Nat.pow_add]
    congr 2; omega
  rw [e1]
  have e2 := rung_scale double (m * k * 2 ^ (i + j - (T + 2))) double.leastPlace T
  rw [show double.leastPlace + double.leastPlace = double.leastPlace - (T : Int) by rw [hT]; omega, e2]
/-- The product. -/
def mulN (x0 y0 : Nat) : Nat :=
  frc x0 fun x => frc y0 fun y =>
  frc (Nat.mod x 9223372036854775808) fun a => frc (Nat.mod y 9223372036854775808) fun b =>
  frc (Nat.div a 4503599627370496) fun i => frc (Nat.div b 4503599627370496) fun j =>
  bif Nat.ble 1 i && (Nat.ble i 2046 && (Nat.ble 1 j && (Nat.ble j 2046 && Nat.ble 1076 (Nat.add i j)))) then
    frc (Nat.mul (Nat.add 4503599627370496 (Nat.mod a 4503599627370496)) (Nat.add 4503599627370496 (Nat.mod b 4503599627370496))) fun n =>
    wd64 (sg64 x ^^ sg64 y) (rs 52 9218868437227405312 n (Nat.sub (Nat.add i j) 1076))
  else fop .mul .f64 x y
theorem mulN_eq (x y : Nat) : fop .mul .f64 x y = mulN x y := by
  unfold mulN
  simp only [frc_eq, ble_dec]
  obtain ⟨i, hi⟩ : ∃ i, Nat.div (Nat.mod x 9223372036854775808) 4503599627370496 = i := ⟨_, rfl⟩
  obtain ⟨j, hj⟩ : ∃ j, Nat.div (Nat.mod y 9223372036854775808) 4503599627370496 = j := ⟨_, rfl⟩
  rw [hi, hj]
  by_cases h : 1 ≤ i ∧ i ≤ 2046 ∧ 1 ≤ j ∧ j ≤ 2046 ∧ 1076 ≤ i + j
  · obtain ⟨h1, h2, h3, h4, h5⟩ := h
    have e : (decide (1 ≤ i) && (decide (i ≤ 2046) && (decide (1 ≤ j) && (decide (j ≤ 2046) && decide (1076 ≤ Nat.add i j))))) = true := by
      rw [decide_eq_true h1, decide_eq_true h2, decide_eq_true h3, decide_eq_true h4, decide_eq_true (show 1076 ≤ Nat.add i j from h5)]; rfl
    rw [e, cond_true]
    have hx : finW double x := fin_norm hi h2
    have hy : finW double y := fin_norm hj h4
    unfold fop floatBits
    show (double.mul x y).getD _ = _
    rw [mul_fin double hx hy, Option.getD_some, wd64_eq, sg64_eq, sg64_eq, units_norm (a := rgW double x) hi h1, units_norm (a := rgW double y) hj h3]
    congr 1
    obtain ⟨m, hm⟩ : ∃ m, 4503599627370496 + rgW double x % 4503599627370496 = m := ⟨_, rfl⟩
    obtain ⟨k, hk⟩ : ∃ k, 4503599627370496 + rgW double y % 4503599627370496 = k := ⟨_, rfl⟩
    show rung double ((4503599627370496 + rgW double x % 4503599627370496) * 2 ^ (i - 1) * ((4503599627370496 + rgW double y % 4503599627370496) * 2 ^ (j - 1))) _ = rs 52 9218868437227405312 ((4503599627370496 + rgW double x % 4503599627370496) * (4503599627370496 + rgW double y % 4503599627370496)) (i + j - 1076)
    rw [hm, hk]
    have e52 : (2 : Nat) ^ 52 = 4503599627370496 := by decide
    have hmk : 2 ^ 52 ≤ m * k := by
      have h6 : 4503599627370496 ≤ m := by omega
      have h7 : 1 ≤ k := by omega
      rw [e52]
      exact Nat.le_trans h6 (Nat.le_mul_of_pos_right m h7)
    rw [rung_mul m k i j 1074 rfl h1 h3 (by omega)]
    exact rs_eq double (m * k) (i + j - 1076) (by rw [e52] at hmk; omega) (by have := nlog hmk; show 52 ≤ _; omega)
  · have e : (decide (1 ≤ i) && (decide (i ≤ 2046) && (decide (1 ≤ j) && (decide (j ≤ 2046) && decide (1076 ≤ Nat.add i j))))) = false := by
      rw [Bool.eq_false_iff]
      intro hc
      simp only [Bool.and_eq_true, decide_eq_true_eq] at hc
      exact h hc
    rw [e, cond_false]
/-- The sum; 'f' turns the second's sign. -/
def addG (f : Bool) (op : BinOp) (x0 y0 : Nat) : Nat :=
  frc x0 fun x => frc y0 fun y =>
  frc (Nat.mod x 9223372036854775808) fun a => frc (Nat.mod y 9223372036854775808) fun b =>
  frc (Nat.div a 4503599627370496) fun i => frc (Nat.div b 4503599627370496) fun j =>
  bif Nat.ble 53 i && (Nat.ble i 2046 && (Nat.ble 53 j && Nat.ble j 2046)) then
    frc (bif Nat.ble i j then i else j) fun c =>
    frc (Nat.mul (Nat.add 4503599627370496 (Nat.mod a 4503599627370496)) (Nat.pow 2 (Nat.sub i c))) fun u =>
    frc (Nat.mul (Nat.add 4503599627370496 (Nat.mod b 4503599627370496)) (Nat.pow 2 (Nat.sub j c))) fun v =>
    bif sg64 x ^^ (sg64 y ^^ f) then
      bif Nat.ble (Nat.succ v) u then frc (Nat.sub u v) fun n => wd64 (sg64 x) (rs 52 9218868437227405312 n (Nat.sub c 1))
      else bif Nat.ble (Nat.succ u) v then frc (Nat.sub v u) fun n => wd64 (!sg64 x) (rs 52 9218868437227405312 n (Nat.sub c 1))
      else 0
    else frc (Nat.add u v) fun n => wd64 (sg64 x) (rs 52 9218868437227405312 n (Nat.sub c 1))
  else fop op .f64 x y
theorem rs_at (n c : Nat) (hn : n ≠ 0) (hc : 53 ≤ c) : rung double (n * 2 ^ (c - 1)) double.leastPlace = rs 52 9218868437227405312 n (Nat.sub c 1) :=
  rs_eq double n (c - 1) hn (by show 52 ≤ _; omega)
theorem addG_eq (f : Bool) (op : BinOp) (hop : ∀ x y, finW double x → finW double y → fop op .f64 x y = double.word (if valW double x + (if sgW double y ^^ f then -(unitsR double (rgW double y) : Int) else unitsR double (rgW double y)) = 0 then sgW double x && (sgW double y ^^ f) else decide (valW double x + (if sgW double y ^^ f then -(unitsR double (rgW double y) : Int) else unitsR double (rgW double y)) < 0)) (rung double (valW double x + (if sgW double y ^^ f then -(unitsR double (rgW double y) : Int) else unitsR double (rgW double y))).natAbs double.leastPlace)) (x y : Nat) : fop op .f64 x y = addG f op x y := by
  unfold addG
  simp only [frc_eq]
  obtain ⟨i, hi⟩ : ∃ i, Nat.div (Nat.mod x 9223372036854775808) 4503599627370496 = i := ⟨_, rfl⟩
  obtain ⟨j, hj⟩ : ∃ j, Nat.div (Nat.mod y 9223372036854775808) 4503599627370496 = j := ⟨_, rfl⟩
  rw [hi, hj]
  by_cases h : 53 ≤ i ∧ i ≤ 2046 ∧ 53 ≤ j ∧ j ≤ 2046
  · obtain ⟨h1, h2, h3, h4⟩ := h
    have e : (Nat.ble 53 i && (Nat.ble i 2046 && (Nat.ble 53 j && Nat.ble j 2046))) = true := by
      rw [ble_dec, ble_dec, ble_dec, ble_dec, decide_eq_true h1, decide_eq_true h2, decide_eq_true h3, decide_eq_true h4]; rfl
    rw [e, cond_true]
    have hx : finW double x := fin_norm hi h2
    have hy : finW double y := fin_norm hj h4
    rw [hop x y hx hy, sum_form (sgW double x) (sgW double y ^^ f) (unitsR double (rgW double x)) (unitsR double (rgW double y)) (valW double x) _ rfl rfl]
    rw [units_norm (a := rgW double x) hi (by omega), units_norm (a := rgW double y) hj (by omega), ← sg64_eq, ← sg64_eq]
    obtain ⟨m, hm⟩ : ∃ m, 4503599627370496 + rgW double x % 4503599627370496 = m := ⟨_, rfl⟩
    obtain ⟨k, hk⟩ : ∃ k, 4503599627370496 + rgW double y % 4503599627370496 = k := ⟨_, rfl⟩
    have hm0 : 1 ≤ m := by omega
    have hk0 : 1 ≤ k := by omega
    obtain ⟨c, hc⟩ : ∃ c, (bif Nat.ble i j then i else j) = c := ⟨_, rfl⟩
    have hci : c ≤ i ∧ c ≤ j ∧ 53 ≤ c := by
      rw [ble_dec] at hc
      by_cases hij : i ≤ j
      · rw [decide_eq_true hij, cond_true] at hc; omega
      · rw [decide_eq_false hij, cond_false] at hc; omega
    show _ = (bif sg64 x ^^ (sg64 y ^^ f) then
      bif Nat.ble (Nat.succ ((4503599627370496 + rgW double y % 4503599627370496) * 2 ^ (j - (bif Nat.ble i j then i else j)))) ((4503599627370496 + rgW double x % 4503599627370496) * 2 ^ (i - (bif Nat.ble i j then i else j))) then wd64 (sg64 x) (rs 52 9218868437227405312 ((4503599627370496 + rgW double x % 4503599627370496) * 2 ^ (i - (bif Nat.ble i j then i else j)) - (4503599627370496 + rgW double y % 4503599627370496) * 2 ^ (j - (bif Nat.ble i j then i else j))) (Nat.sub (bif Nat.ble i j then i else j) 1))
      else bif Nat.ble (Nat.succ ((4503599627370496 + rgW double x % 4503599627370496) * 2 ^ (i - (bif Nat.ble i j then i else j)))) ((4503599627370496 + rgW double y % 4503599627370496) * 2 ^ (j - (bif Nat.ble i j then i else j))) then wd64 (!sg64 x) (rs 52 9218868437227405312 ((4503599627370496 + rgW double y % 4503599627370496) * 2 ^ (j - (bif Nat.ble i j then i else j)) - (4503599627370496 + rgW double x % 4503599627370496) * 2 ^ (i - (bif Nat.ble i j then i else j))) (Nat.sub (bif Nat.ble i j then i else j) 1))
      else 0
    else wd64 (sg64 x) (rs 52 9218868437227405312 ((4503599627370496 + rgW double x % 4503599627370496) * 2 ^ (i - (bif Nat.ble i j then i else j)) + (4503599627370496 + rgW double y % 4503599627370496) * 2 ^ (j - (bif Nat.ble i j then i else j))) (Nat.sub (bif Nat.ble i j then i else j) 1)))
    rw [hc, hm, hk]
    have eu : m * 2 ^ (i - 1) = m * 2 ^ (i - c) * 2 ^ (c - 1) := by
      rw [Nat.mul_assoc, ← Nat.pow_add]; congr 2; omega
    have ev : k * 2 ^ (j - 1) = k * 2 ^ (j - c) * 2 ^ (c - 1) := by
      rw [Nat.mul_assoc, ← Nat.pow_add]; congr 2; omega
    rw [eu, ev]
    have hu0 : 1 ≤ m * 2 ^ (i - c) := Nat.mul_pos hm0 (Nat.two_pow_pos _)
    generalize m * 2 ^ (i - c) = u at *
    generalize k * 2 ^ (j - c) = v at *
    have hp := Nat.two_pow_pos (c - 1)
    have lt1 : ∀ a b : Nat, Nat.ble (Nat.succ (a * 2 ^ (c - 1))) (b * 2 ^ (c - 1)) = Nat.ble (Nat.succ a) b := fun a b => by
      rw [ble_dec, ble_dec]
      exact decide_eq_decide.2 (Nat.mul_lt_mul_right hp)
    rw [lt1, lt1, ← Nat.add_mul, ← Nat.sub_mul, ← Nat.sub_mul]
    cases sg64 x ^^ (sg64 y ^^ f)
    · rw [cond_false, cond_false, rs_at (u + v) c (by omega) hci.2.2, wd64_eq]
    · rw [cond_true, cond_true, ble_dec, ble_dec]
      by_cases q1 : v.succ ≤ u
      · rw [decide_eq_true q1, cond_true, cond_true, rs_at (u - v) c (by omega) hci.2.2, wd64_eq]
      · rw [decide_eq_false q1, cond_false, cond_false]
        by_cases q2 : u.succ ≤ v
        · rw [decide_eq_true q2, cond_true, cond_true, rs_at (v - u) c (by omega) hci.2.2, wd64_eq]
        · rw [decide_eq_false q2, cond_false, cond_false]
  · have e : (Nat.ble 53 i && (Nat.ble i 2046 && (Nat.ble 53 j && Nat.ble j 2046))) = false := by
      rw [Bool.eq_false_iff]
      intro hc
      simp only [ble_dec, Bool.and_eq_true, decide_eq_true_eq] at hc
      exact h hc
    rw [e, cond_false]
def addN (x y : Nat) : Nat := addG false .add x y
def subN (x y : Nat) : Nat := addG true .sub x y
theorem addN_eq (x y : Nat) : fop .add .f64 x y = addN x y :=
  addG_eq false .add (fun x y hx hy => by
    unfold fop floatBits
    show (double.add x y).getD _ = _
    rw [add_fin double hx hy, Option.getD_some]
    simp only [Bool.xor_false]
    rfl) x y
theorem subN_eq (x y : Nat) : fop .sub .f64 x y = subN x y :=
  addG_eq true .sub (fun x y hx hy => by
    unfold fop floatBits
    show (double.sub x y).getD _ = _
    rw [sub_fin double (by decide) hx hy, Option.getD_some]
    have e : ∀ v : Int, v - valW double y = v + (if sgW double y ^^ true then -(unitsR double (rgW double y) : Int) else unitsR double (rgW double y)) := fun v => by
      unfold valW
      cases sgW double y
      · simp; omega
      · simp
    rw [e]
    simp only [Bool.xor_true]) x y
end Go.Proofs.Ytocclddnaaaohaa.Fl
