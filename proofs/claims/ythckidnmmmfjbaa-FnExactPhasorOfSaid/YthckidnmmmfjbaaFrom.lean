/- The walks of FromBits and FlushNumber, of the program and of the reference. No condition. -/
import Derived.Test.YthckidnmmmfjbaaSub
import Derived.Test.YthckidnmmmfjbaaFin
namespace Go.Proofs.Ythckidnmmmfjbaa
open Go.RowKit Go.Proofs.Ythckidnmmmfjbaa.Fl

theorem from_any (n : Nat) (h : n < 2 ^ 32) (w : World) :
    Calls Try.prog 36 #[.int .i64 n] w fun e w' => e = .returned (.float .f32 n) ∧ w = w' := by
  have h2 : (n : Int) < 4294967296 := by omega
  clear h
  go_enter Try.func36, Try.ntmps36
  go_wp2
  go_ret
  exact ⟨by have e : ((n : Int) % 4294967296).toNat = n := by omega
            rw [← e]; rfl, rfl⟩
theorem specFrom_yes (n : Nat) (h : n < 2 ^ 32) (w : World) :
    Calls Try.prog 13 #[.int .i64 n] w fun e w' => e = .returned (.tuple #[.float .f32 n, .bool true]) ∧ w = w' := by
  have h2 : (n : Int) ≤ 4294967295 := by omega
  have h3 : (0 : Int) ≤ n := by omega
  have E : Hid (((n : Int) % 4294967296).toNat = n) := by unfold Hid; omega
  go_enter Try.func13, Try.ntmps13
  go_wp2_with (first | (go_at_call 36; refine (from_any _ h _).mono ?_; rintro e w1 ⟨rfl, rfl⟩) | go_in)
  go_ret2
  exact ⟨rfl, rfl⟩

theorem specFrom_no (n : Int) (h : n < 0 ∨ 4294967295 < n) (w : World) :
    Calls Try.prog 13 #[.int .i64 n] w fun e w' => e = .returned (.tuple #[.float .f32 0, .bool false]) ∧ w = w' := by
  rcases h with h | h
  · go_enter Try.func13, Try.ntmps13
    go_wp2
    go_ret2
    exact ⟨rfl, rfl⟩
  · have h' : 0 ≤ n := by omega
    have hd : decide (n ≤ 4294967295) = false := by simp; omega
    go_enter Try.func13, Try.ntmps13
    go_wp2
    go_ret2
    exact ⟨rfl, rfl⟩

theorem implFrom_yes (n : Nat) (h : n < 2 ^ 32) (w : World) :
    Calls Try.prog 14 #[.int .i64 n] w fun e w' => e = .returned (.tuple #[.float .f32 n, .bool true]) ∧ w = w' := by
  have h2 : (n : Int) ≤ 4294967295 := by omega
  have h3 : (0 : Int) ≤ n := by omega
  have E : Hid (((n : Int) % 4294967296).toNat = n) := by unfold Hid; omega
  go_enter Try.func14, Try.ntmps14
  go_wp2_with (first | go_in)
  go_ret2
  exact ⟨by have e := E.out; (try rw [← e]); (try rw [e]); rfl, rfl⟩

theorem implFrom_no (n : Int) (h : n < 0 ∨ 4294967295 < n) (w : World) :
    Calls Try.prog 14 #[.int .i64 n] w fun e w' => e = .returned (.tuple #[.float .f32 0, .bool false]) ∧ w = w' := by
  rcases h with h | h
  · go_enter Try.func14, Try.ntmps14
    go_wp2
    go_ret2
    exact ⟨rfl, rfl⟩
  · have h' : 0 ≤ n := by omega
    have hd : decide (n ≤ 4294967295) = false := by simp; omega
    go_enter Try.func14, Try.ntmps14
    go_wp2
    go_ret2
    exact ⟨rfl, rfl⟩

theorem bits_exp (x : Nat) (hx : x < 2 ^ 32) : (bits .and .i64 (bitsV x) 2139095040 == 0) = subE x := by
  cases hn : nanB .f32 x
  · rw [bitsV_num hn, and_exp x hx]
  · rw [bitsV_nan hn, subE_nan hn]; decide +kernel
theorem signBit_lt (x : Nat) : signBit x < 2 ^ 32 := by unfold signBit; split <;> omega

/-- What FlushNumber gives. -/
def flushV (x : Nat) : Nat := if subE x then signBit x else nz .f32 x
theorem flushV_sub {x : Nat} (h : subE x = true) : flushV x = signBit x := by simp [flushV, h]
theorem flushV_not {x : Nat} (h : subE x = false) : flushV x = nz .f32 x := by simp [flushV, h]
theorem nan_not_sub {x : Nat} (h : subE x = true) : nanB .f32 x = false := by
  cases hn : nanB .f32 x
  · rfl
  · rw [subE_nan hn] at h; cases h
theorem nz_signBit (x : Nat) : nz .f32 (signBit x) = signBit x := by
  unfold signBit; split <;> decide +kernel

theorem specFlush_any (x : Nat) (hx : x < 2 ^ 32) (w : World) :
    Calls Try.prog 39 #[.float .f32 x] w (RetF .f32 (flushV x) w) := by
  have HX := hid hx
  have T := bits_exp x hx
  have S := hid (sign_i64 x hx)
  clear hx
  cases hs : subE x
  · rw [hs] at T
    have V := hid (flushV_not hs)
    clear hs S
    go_enter Try.func39, Try.ntmps39
    go_wp2_with (go_at_call 65; refine (specBits_any _ HX.out _).mono ?_; rintro e w1 ⟨rfl, rfl⟩)
    go_ret
    exact ⟨x, 0, rfl, V.out.symm, HX, rfl⟩
  · rw [hs] at T
    have V := hid (flushV_sub hs)
    have B : Hid (bitsV x = x) := bitsV_num (nan_not_sub hs)
    have S2 : Hid (bits .and .i64 (x : Int) 2147483648 = (signBit x : Nat)) := by
      unfold Hid
      have e := i64_and_nat x 2147483648 (by have := HX.out; omega) (by omega)
      rw [show ((2147483648 : Nat) : Int) = 2147483648 from rfl] at e
      have e2 := S.out
      rw [e, Int.toNat_natCast] at e2
      rw [e, e2]
    clear hs S
    go_enter Try.func39, Try.ntmps39
    go_wp2_with (first | (go_at_call 65; refine (specBits_any _ HX.out _).mono ?_; rintro e w1 ⟨rfl, rfl⟩) | (go_at_call 36; rw [B.out, S2.out]; refine (from_any _ (signBit_lt x) _).mono ?_; rintro e w1 ⟨rfl, rfl⟩))
    go_ret
    exact ⟨signBit x, 0, rfl, by rw [V.out]; exact nz_signBit x, signBit_lt x, rfl⟩
/-- A zero with the sign of v. -/
def zsgn (v : Nat) : Nat := if v < 2 ^ 63 then 0 else 2 ^ 63
theorem copysign_any (v : Nat) (hv : v < 2 ^ 64) (w : World) :
    Calls Try.prog 41 #[.float .f64 0, .float .f64 v] w fun e w' => e = .returned (.float .f64 (zsgn v)) ∧ w = w' := by
  have S : Hid (_ = zsgn v) := sign_u64 v hv
  clear hv
  go_enter Try.func41, Try.ntmps41
  go_wp2
  go_ret
  exact ⟨by rw [← S.out]; rfl, rfl⟩

theorem zero_lt (v : Nat) : zsgn v < 2 ^ 64 := by unfold zsgn; split <;> omega

theorem implFlush_any (x : Nat) (hx : x < 2 ^ 32) (w : World) :
    Calls Try.prog 17 #[.float .f32 x] w (RetF .f32 (flushV x) w) := by
  have HX := hid hx
  clear hx
  cases hs : subV x
  · have V : Hid (nz .f32 x = flushV x) := by
      unfold Hid
      unfold subV at hs
      cases h1 : subE x
      · exact (flushV_not h1).symm
      · rw [h1, Bool.and_true] at hs
        rw [flushV_sub h1]
        have hz : FloatKind.f32.format.order x 0 = some .eq := by simpa using hs
        have hf : finW Ieee.single x := by
          unfold finW; unfold subE at h1
          have : Ieee.single.infRung = 2139095040 := rfl
          have := of_decide_eq_true h1; omega
        have h0 : finW Ieee.single 0 := finW_zero .f32
        have ho : FloatKind.f32.format.order x 0 = some (compare (valW Ieee.single x) (valW Ieee.single 0)) := order_fin Ieee.single hf h0
        rw [ho] at hz
        have hv0 : valW Ieee.single 0 = 0 := by decide +kernel
        have hv : valW Ieee.single x = 0 := by
          rw [hv0] at hz
          simp only [compare, compareOfLessAndEq, Option.some.injEq] at hz
          split at hz
          · cases hz
          · split at hz
            · assumption
            · cases hz
        have hu : unitsR Ieee.single (rgW Ieee.single x) = unitsR Ieee.single 0 := by
          have := valW_abs Ieee.single x; rw [hv] at this; rw [unitsR_zero]; omega
        have hr : rgW Ieee.single x = 0 := units_inj Ieee.single (Nat.le_of_lt hf) (by decide) hu
        have hx := HX.out
        rw [rgW_single] at hr
        have : nz .f32 x = x := nz_num (nan_not_sub h1)
        rw [this]; unfold signBit; split <;> omega
    go_enter Try.func17, Try.ntmps17
    go_wp2_with (go_at_call 40; refine (implSub_any _ HX.out _).mono ?_; rintro e w1 ⟨rfl, n1, rfl⟩; rw [hs])
    go_ret
    exact ⟨x, n1, rfl, V.out, HX, rfl⟩
  · have h1 : subE x = true := by unfold subV at hs; simp at hs; exact hs.2
    have hn := hid (nan_not_sub h1)
    have V := hid (flushV_sub h1)
    clear h1
    go_enter Try.func17, Try.ntmps17
    go_wp2_with (first | (go_at_call 40; refine (implSub_any _ HX.out _).mono ?_; rintro e w1 ⟨rfl, n1, rfl⟩; rw [hs]) | (refine wpList_fcv _ rfl _ _ _ rfl _ _ x rfl (by decide) rfl Try.underlying26 (narrows_up _) HX.out ?_; intro v n hv hb) | (go_at_call 41; refine (copysign_any _ hb.out _).mono ?_; rintro e w2 ⟨rfl, rfl⟩) | (refine wpList_fcv _ rfl _ _ _ rfl .f64 .f32 _ rfl (by decide) rfl Try.underlying22 (narrows_zero (v < 2 ^ 63)) (zero_lt _) ?_; intro u m hu hc))
    go_ret
    refine ⟨u, _, rfl, ?_, hc, rfl⟩
    unfold Hid
    rw [hu.out]
    unfold zsgn
    rw [fcv_zero, V.out]
    have := sg_widen HX.out hn.out hv.out
    unfold signBit
    by_cases c : x < 2 ^ 31
    · rw [if_pos (this.2 c), if_pos c]
    · rw [if_neg (fun h => c (this.1 h)), if_neg c]
theorem specFrom_yes' (n : Nat) (h : n < 2 ^ 32) (w : World) : Calls Try.prog 13 #[.int .i64 n] w (RetFB .f32 (nz .f32 n) true w) :=
  (specFrom_yes n h w).mono fun _ _ ⟨he, hw⟩ => ⟨n, 0, he, rfl, h, hw.symm⟩
theorem specFrom_no' (n : Int) (h : n < 0 ∨ 4294967295 < n) (w : World) : Calls Try.prog 13 #[.int .i64 n] w (RetFB .f32 (nz .f32 0) false w) :=
  (specFrom_no n h w).mono fun _ _ ⟨he, hw⟩ => ⟨0, 0, he, rfl, hid32 (by decide), hw.symm⟩
theorem implFrom_yes' (n : Nat) (h : n < 2 ^ 32) (w : World) : Calls Try.prog 14 #[.int .i64 n] w (RetFB .f32 (nz .f32 n) true w) :=
  (implFrom_yes n h w).mono fun _ _ ⟨he, hw⟩ => ⟨n, 0, he, rfl, h, hw.symm⟩
theorem implFrom_no' (n : Int) (h : n < 0 ∨ 4294967295 < n) (w : World) : Calls Try.prog 14 #[.int .i64 n] w (RetFB .f32 (nz .f32 0) false w) :=
  (implFrom_no n h w).mono fun _ _ ⟨he, hw⟩ => ⟨0, 0, he, rfl, hid32 (by decide), hw.symm⟩
end Go.Proofs.Ythckidnmmmfjbaa
