/- Tenths of decibels of small products, in a form that the kernel evaluates fast. No program. No condition. -/
import Derived.Test.YtocclddnaaaohaaKf
import Derived.Test.YtocclddnaaaohaaFt
namespace Go.Proofs.Ytocclddnaaaohaa.Fl
open Go Ieee

/-- 1/25, 1/23 .. 1. -/
def cL : List Nat := [4585925428558828667, 4586426698778222948, 4587023449039406616, 4587745830934523688, 4588638185040256542, 4589468260265693457, 4590207312512236308, 4591215111030249286, 4592670820000712476, 4594314991293244562, 4596373779694328218, 4599676419421066581, 4607182418800017408]
theorem cL_at : ∀ j : Fin 13, fop .quo .f64 4607182418800017408 (floatOfInt .f64 (25 - 2 * (j.val : Int))) = cL.getD j.val 0 := by decide +kernel
noncomputable def qK (u : Nat) (l : List Nat) : Nat → Nat := List.rec (motive := fun _ => Nat → Nat) (fun q => q) (fun c _ ih q => frc (addN c (mulN u q)) ih) l
theorem qK_eq (u : Nat) : qIt u 13 = qK u cL 0 := by
  have st : ∀ j, j < 13 → qIt u (j + 1) = addN (cL.getD j 0) (mulN u (qIt u j)) := fun j hj => by
    show fop .add .f64 (fop .quo .f64 4607182418800017408 (floatOfInt .f64 (25 - 2 * (j : Int)))) (fop .mul .f64 u (qIt u j)) = _
    rw [cL_at ⟨j, hj⟩, mulN_eq, addN_eq]
  have e : qK u cL 0 = addN 4607182418800017408 (mulN u (addN 4599676419421066581 (mulN u (addN 4596373779694328218 (mulN u (addN 4594314991293244562 (mulN u (addN 4592670820000712476 (mulN u (addN 4591215111030249286 (mulN u (addN 4590207312512236308 (mulN u (addN 4589468260265693457 (mulN u (addN 4588638185040256542 (mulN u (addN 4587745830934523688 (mulN u (addN 4587023449039406616 (mulN u (addN 4586426698778222948 (mulN u (addN 4585925428558828667 (mulN u (0)))))))))))))))))))))))))) := by
    unfold qK cL
    simp only [frc_eq]
  rw [e, st 12 (by decide), st 11 (by decide), st 10 (by decide), st 9 (by decide), st 8 (by decide), st 7 (by decide), st 6 (by decide), st 5 (by decide), st 4 (by decide), st 3 (by decide), st 2 (by decide), st 1 (by decide), st 0 (by decide)]
  rfl
/-- The logarithm's part of a number's digits. -/
noncomputable def Lp (x : Nat) : Nat :=
  frc (subN x 4607182418800017408) fun a => frc (addN x 4607182418800017408) fun b => frc (fop .quo .f64 a b) fun s =>
  frc (mulN s s) fun u => frc (qK u cL 0) fun q => frc (mulN s q) fun p => mulN 4611686018427387904 p
/-- The logarithm's part of the exponent. -/
def eL (h d : Nat) : Nat := fop .mul .f64 (floatOfInt .f64 ((h : Int) - (d : Int))) 4604418534313441775
noncomputable def zN (v : Nat) : Nat :=
  frc (halves v) fun h => frc (Nat.sub v (Nat.mul h 4503599627370496)) fun y => frc (doubles y) fun d =>
  frc (Nat.add y (Nat.mul d 4503599627370496)) fun x => frc (Lp x) fun A => frc (eL h d) fun B =>
  frc (addN A B) fun l => frc (mulN l 4631308968768463603) fun w => addN w 4602678819172646912
theorem zN_eq (v : Nat) : zV (logV (normX v) (normE v)) = zN v := by
  unfold zN Lp eL zV logV sV
  simp only [frc_eq]
  rw [qK_eq]
  simp only [addN_eq, subN_eq, mulN_eq]
  unfold normX normE
  rw [stepL]
  rfl
/-- Two great numbers. -/
def P64 : Nat := Nat.pow 64 200
def Q10 : Nat := Nat.mul (Nat.pow 10 200) (Nat.pow 10 200)
/-- Where the tenths lie: k is their number and 200. -/
def Br (n k : Nat) : Bool := Nat.ble 1 k && (Nat.ble k 1000 && (Nat.ble (Nat.mul (Nat.pow 10 (Nat.sub (Nat.mul 2 k) 1)) P64) (Nat.mul (Nat.pow n 200) Q10) && Nat.ble (Nat.succ (Nat.mul (Nat.pow n 200) Q10)) (Nat.mul (Nat.pow 10 (Nat.succ (Nat.mul 2 k))) P64)))
/-- The word of n / 64, and that in 64 bits. -/
def W32 (n : Nat) : Nat := rs 23 2139095040 n 143
def W64 (n : Nat) : Nat := rs 52 9218868437227405312 n 1068
noncomputable def tK (z : Nat) : Nat := Int.toNat (wholeI (floorW z) + 200)
noncomputable def chk (n0 : Nat) : Bool :=
  frc n0 fun n => frc (W64 n) fun v => frc (zN v) fun z => frc (tK z) fun k => Br n k
noncomputable def chkJ (m : Nat) : Bool := Nat.rec (motive := fun _ => Nat → Bool) (fun _ => true) (fun _ ih n => bif Nat.ble n 40000 then (bif chk n then frc (Nat.mul 2 n) ih else false) else true) 16 m
noncomputable def chkA (a : Nat) : Bool := Nat.rec (motive := fun _ => Nat → Bool) (fun _ => true) (fun _ ih b => bif Nat.ble b 199 then (bif chkJ (Nat.mul a b) then frc (Nat.add b 2) ih else false) else true) 100 a
theorem chkJ_all {m : Nat} (h : chkJ m = true) : ∀ j, j < 16 → m * 2 ^ j ≤ 40000 → chk (m * 2 ^ j) = true := by
  have key : ∀ (f : Nat) (m : Nat), (Nat.rec (motive := fun _ => Nat → Bool) (fun _ => true) (fun _ ih n => bif Nat.ble n 40000 then (bif chk n then frc (Nat.mul 2 n) ih else false) else true) f m : Bool) = true → ∀ j, j < f → m * 2 ^ j ≤ 40000 → chk (m * 2 ^ j) = true := by
    intro f
    induction f with
    | zero => intro m _ j hj; omega
    | succ f ih =>
      intro m hm j hj hle
      have hm0 : m ≤ 40000 := Nat.le_trans (Nat.le_mul_of_pos_right m (Nat.two_pow_pos j)) hle
      have hb : Nat.ble m 40000 = true := by rw [ble_dec]; exact decide_eq_true hm0
      change (bif Nat.ble m 40000 then (bif chk m then frc (Nat.mul 2 m) _ else false) else true) = true at hm
      rw [hb, cond_true] at hm
      cases hc : chk m with
      | false => rw [hc] at hm; cases hm
      | true =>
        rw [hc, cond_true, frc_eq] at hm
        match j with
        | 0 => simpa using hc
        | j + 1 =>
          have e : m * 2 ^ (j + 1) = Nat.mul 2 m * 2 ^ j := by
            show m * 2 ^ (j + 1) = 2 * m * 2 ^ j
            rw [Nat.pow_succ]; ac_rfl
          rw [e] at hle ⊢
          exact ih _ hm j (by omega) hle
  exact key 16 m h
theorem chkA_all {a : Nat} (h : chkA a = true) : ∀ i, i < 100 → a + 2 * i ≤ 199 → chkJ (a * (a + 2 * i)) = true := by
  have key : ∀ (f : Nat) (b : Nat), (Nat.rec (motive := fun _ => Nat → Bool) (fun _ => true) (fun _ ih b => bif Nat.ble b 199 then (bif chkJ (Nat.mul a b) then frc (Nat.add b 2) ih else false) else true) f b : Bool) = true → ∀ i, i < f → b + 2 * i ≤ 199 → chkJ (a * (b + 2 * i)) = true := by
    intro f
    induction f with
    | zero => intro b _ i hi; omega
    | succ f ih =>
      intro b hb i hi hle
      have hb0 : Nat.ble b 199 = true := by rw [ble_dec]; exact decide_eq_true (by omega)
      change (bif Nat.ble b 199 then (bif chkJ (Nat.mul a b) then frc (Nat.add b 2) _ else false) else true) = true at hb
      rw [hb0, cond_true] at hb
      cases hc : chkJ (Nat.mul a b) with
      | false => rw [hc] at hb; cases hb
      | true =>
        rw [hc, cond_true, frc_eq] at hb
        match i with
        | 0 => exact hc
        | i + 1 =>
          have := ih _ hb i (by omega) (by show b + 2 + 2 * i ≤ 199; omega)
          rw [show Nat.add b 2 + 2 * i = b + 2 * (i + 1) by show b + 2 + 2 * i = _; omega] at this
          exact this
  exact key 100 a h
end Go.Proofs.Ytocclddnaaaohaa.Fl
