/- The walks of what FnCircles calls, on numbers that are no NaNs. No condition. -/
import Derived.Test.YtocclddnaaaohaaPhasor
import Derived.Test.YtocclddnaaaohaaAngle
import Derived.Test.YtocclddnaaaohaaBits
namespace Go.Proofs.Ytocclddnaaaohaa
open Go Go.RowKit Go.Proofs.Ytocclddnaaaohaa.Fl

theorem nan_left {op : BinOp} {k : FloatKind} {x y : Nat} (h : nanB k (fop op k x y) = false) : nanB k x = false := by
  cases hx : nanB k x with
  | false => rfl
  | true =>
    exfalso
    obtain ⟨s, t, hd⟩ := decode_nan hx
    have e : floatBits op k x y = none := by
      unfold floatBits
      cases op <;> simp only [Ieee.Format.add, Ieee.Format.sub, Ieee.Format.mul, Ieee.Format.div, hd, Ieee.Datum.sum, Ieee.Datum.product, Ieee.Datum.quotient, Option.map_none]
    unfold fop at h
    rw [e, Option.getD_none, nanB_cnan] at h
    cases h
theorem nan_right {op : BinOp} {k : FloatKind} {x y : Nat} (h : nanB k (fop op k x y) = false) : nanB k y = false := by
  cases hy : nanB k y with
  | false => rfl
  | true =>
    exfalso
    have h2 : fop op k x y = fop op k x (cnan k) := by rw [← fop_nz_right, nz_nan hy]
    have hx := nan_left h
    rw [h2] at h
    obtain ⟨s, t, hd⟩ := decode_nan (nanB_cnan k)
    have e : floatBits op k x (cnan k) = none := by
      unfold floatBits
      cases hr : k.format.read x <;> cases op <;> simp only [Ieee.Format.add, Ieee.Format.sub, Ieee.Format.mul, Ieee.Format.div, hd, hr, Ieee.Datum.opposite, Ieee.Datum.sum, Ieee.Datum.product, Ieee.Datum.quotient, Option.map_none]
    unfold fop at h
    rw [e, Option.getD_none, nanB_cnan] at h
    cases h
theorem fop_at {op : BinOp} {k : FloatKind} {x y : Nat} (h : nanB k (fop op k x y) = false) : floatBits op k x y = some (fop op k x y) := by
  cases e : floatBits op k x y with
  | none =>
    exfalso
    unfold fop at h
    rw [e, Option.getD_none, nanB_cnan] at h
    cases h
  | some r => unfold fop; rw [e]; rfl
theorem fcv_at {s k : FloatKind} {x : Nat} (h : nanB k (fcv s k x) = false) : floatToFloatBits s x k = some (fcv s k x) := by
  cases e : floatToFloatBits s x k with
  | none =>
    exfalso
    unfold fcv at h
    rw [e, Option.getD_none, nanB_cnan] at h
    cases h
  | some r => unfold fcv; rw [e]; rfl
theorem nan_cv {s k : FloatKind} (hne : s ≠ k) {x : Nat} (h : nanB k (fcv s k x) = false) : nanB s x = false := by
  cases hx : nanB s x with
  | false => rfl
  | true =>
    exfalso
    unfold fcv at h
    rw [cv_nan hne hx, Option.getD_none, nanB_cnan] at h
    cases h
/-- An operation whose result is no NaN, for the walk to take. -/
theorem op_at {op : BinOp} {k : FloatKind} {x y r : Nat} (t : TypeId) (hr : fop op k x y = r) (h : nanB k r = false) : ∀ W, (binOp op t (.float k x) (.float k y)).run Try.prog W = .ok (.float k r) W := fun W => by
  subst hr
  exact run_float_arith W op t k x y _ (fop_at h)
theorem up_at {x r : Nat} (hr : fcv .f32 .f64 x = r) (h : nanB .f64 r = false) : ∀ W, (convert 28 27 (.float .f32 x)).run Try.prog W = .ok (.float .f64 r) W := fun W => by
  subst hr
  exact run_convert_float_float W _ _ .f32 .f64 x _ rfl Try.underlying27 (fcv_at h)
theorem dn_at {x r : Nat} (hr : fcv .f64 .f32 x = r) (h : nanB .f32 r = false) : ∀ W, (convert 27 28 (.float .f64 x)).run Try.prog W = .ok (.float .f32 r) W := fun W => by
  subst hr
  exact run_convert_float_float W _ _ .f64 .f32 x _ rfl Try.underlying28 (fcv_at h)

/-- The distance of two numbers. -/
def gapV (a b : Nat) : Nat := if FloatKind.f64.format.order a b == some .lt then fop .sub .f64 b a else fop .sub .f64 a b
theorem gap_at {a b g : Nat} (hg : gapV a b = g) (h : nanB .f64 g = false) (w : World) :
    Calls Try.prog 8 #[.float .f64 a, .float .f64 b] w fun e w' => e = .returned (.float .f64 g) ∧ w' = w := by
  unfold gapV at hg
  cases t : (FloatKind.f64.format.order a b == some .lt)
  · rw [t] at hg
    have H := op_at 27 hg h
    clear hg h
    go_enter Try.func8, Try.ntmps8
    go_wp2
    go_ret
    exact ⟨rfl, rfl⟩
  · rw [t] at hg
    have H := op_at 27 hg h
    clear hg h
    go_enter Try.func8, Try.ntmps8
    go_wp2
    go_ret
    exact ⟨rfl, rfl⟩
/-- x is at most y. -/
def leB (x y : Nat) : Bool := FloatKind.f64.format.order x y == some .lt || FloatKind.f64.format.order x y == some .eq
/-- What is widened. -/
structure Wid (x u : Nat) : Prop where
  cv : fcv .f32 .f64 x = u
  num : nanB .f64 u = false
theorem parts_at {a b u v : Nat} (ha : Wid a u) (hb : Wid b v) (w : World) :
    Calls Try.prog 30 #[.complex .f32 a b] w fun e w' => e = .returned (.tuple #[.float .f64 u, .float .f64 v]) ∧ w' = w := by
  have H1 := up_at ha.cv ha.num
  have H2 := up_at hb.cv hb.num
  clear ha hb
  go_enter Try.func30, Try.ntmps30
  go_wp2
  go_ret2
  exact ⟨rfl, rfl⟩
def powE (u v : Nat) : Nat := fop .add .f64 (fop .mul .f64 u u) (fop .mul .f64 v v)
theorem power_at {a b u v r : Nat} (ha : Wid a u) (hb : Wid b v) (hr : powE u v = r) (h : nanB .f64 r = false) (w : World) :
    Calls Try.prog 20 #[.complex .f32 a b] w fun e w' => e = .returned (.float .f64 r) ∧ w' = w := by
  have HA := hid ha
  have HB := hid hb
  have h0 : nanB .f64 (powE u v) = false := by rw [hr]; exact h
  obtain ⟨x, hx⟩ : ∃ x, fop .mul .f64 u u = x := ⟨_, rfl⟩
  obtain ⟨y, hy⟩ : ∃ y, fop .mul .f64 v v = y := ⟨_, rfl⟩
  have H1 := op_at 27 hx (by rw [← hx]; exact nan_left h0)
  have H2 := op_at 27 hy (by rw [← hy]; exact nan_right h0)
  have H3 : fop .add .f64 x y = r := by rw [← hx, ← hy]; exact hr
  have H4 := op_at 27 H3 h
  clear h0 hx hy hr h ha hb H3
  go_enter Try.func20, Try.ntmps20
  go_wp2_with (go_at_call 30; refine (parts_at HA.out HB.out _).mono ?_; rintro e w1 ⟨rfl, rfl⟩)
  go_ret
  exact ⟨rfl, rfl⟩
theorem powerOf_at {a b u v r s : Nat} (ha : Wid a u) (hb : Wid b v) (hr : powE u v = r) (h : nanB .f64 r = false) (hs : fcv .f64 .f32 r = s) (h2 : nanB .f32 s = false) (w : World) :
    Calls Try.prog 9 #[.complex .f32 a b] w fun e w' => e = .returned (.float .f32 s) ∧ w' = w := by
  have HA := hid ha
  have HB := hid hb
  have HR := hid hr
  have HN := hid h
  have H4 := dn_at hs h2
  clear hr h ha hb hs h2
  go_enter Try.func9, Try.ntmps9
  go_wp2_with (go_at_call 20; refine (power_at HA.out HB.out HR.out HN.out _).mono ?_; rintro e w1 ⟨rfl, rfl⟩)
  go_ret
  exact ⟨rfl, rfl⟩
def mulRe (a b c d : Nat) : Nat := fop .sub .f64 (fop .mul .f64 a c) (fop .mul .f64 b d)
def mulIm (a b c d : Nat) : Nat := fop .add .f64 (fop .mul .f64 a d) (fop .mul .f64 b c)
theorem product_at {x y x' y' a b c d r s : Nat} (ha : Wid x a) (hb : Wid y b) (hc : Wid x' c) (hd : Wid y' d) (hr : mulRe a b c d = r) (h : nanB .f64 r = false) (hs : mulIm a b c d = s) (h2 : nanB .f64 s = false) (w : World) :
    Calls Try.prog 21 #[.complex .f32 x y, .complex .f32 x' y'] w fun e w' => e = .returned (.tuple #[.float .f64 r, .float .f64 s]) ∧ w' = w := by
  have HA := hid ha
  have HB := hid hb
  have HC := hid hc
  have HD := hid hd
  have h0 : nanB .f64 (mulRe a b c d) = false := by rw [hr]; exact h
  have h3 : nanB .f64 (mulIm a b c d) = false := by rw [hs]; exact h2
  obtain ⟨p, hp⟩ : ∃ p, fop .mul .f64 a c = p := ⟨_, rfl⟩
  obtain ⟨q, hq⟩ : ∃ q, fop .mul .f64 b d = q := ⟨_, rfl⟩
  obtain ⟨p2, hp2⟩ : ∃ p, fop .mul .f64 a d = p := ⟨_, rfl⟩
  obtain ⟨q2, hq2⟩ : ∃ q, fop .mul .f64 b c = q := ⟨_, rfl⟩
  have H1 := op_at 27 hp (by rw [← hp]; exact nan_left h0)
  have H2 := op_at 27 hq (by rw [← hq]; exact nan_right h0)
  have H1b := op_at 27 hp2 (by rw [← hp2]; exact nan_left h3)
  have H2b := op_at 27 hq2 (by rw [← hq2]; exact nan_right h3)
  have H3 : fop .sub .f64 p q = r := by rw [← hp, ← hq]; exact hr
  have H4 := op_at 27 H3 h
  have H5 : fop .add .f64 p2 q2 = s := by rw [← hp2, ← hq2]; exact hs
  have H6 := op_at 27 H5 h2
  clear h0 h3 hp hq hp2 hq2 hr h hs h2 ha hb hc hd H3 H5
  go_enter Try.func21, Try.ntmps21
  go_wp2_with fail
  refine (parts_at HA.out HB.out _).mono ?_
  rintro e w1 ⟨rfl, rfl⟩
  go_wp2_with fail
  refine (parts_at HC.out HD.out _).mono ?_
  rintro e w2 ⟨rfl, rfl⟩
  go_wp2
  go_ret2
  exact ⟨rfl, rfl⟩
theorem mulC_at {x y x' y' a b c d r s t u : Nat} (ha : Wid x a) (hb : Wid y b) (hc : Wid x' c) (hd : Wid y' d) (hr : mulRe a b c d = r) (h : nanB .f64 r = false) (hs : mulIm a b c d = s) (h2 : nanB .f64 s = false) (ht : fcv .f64 .f32 r = t) (h3 : nanB .f32 t = false) (hu : fcv .f64 .f32 s = u) (h4 : nanB .f32 u = false) (w : World) :
    Calls Try.prog 11 #[.complex .f32 x y, .complex .f32 x' y'] w fun e w' => e = .returned (.complex .f32 t u) ∧ w' = w := by
  have HA := hid ha
  have HB := hid hb
  have HC := hid hc
  have HD := hid hd
  have HR := hid hr
  have HN := hid h
  have HS := hid hs
  have HN2 := hid h2
  have H1 := dn_at ht h3
  have H2 := dn_at hu h4
  clear hr h hs h2 ha hb hc hd ht h3 hu h4
  go_enter Try.func11, Try.ntmps11
  go_wp2_with (go_at_call 21; refine (product_at HA.out HB.out HC.out HD.out HR.out HN.out HS.out HN2.out _).mono ?_; rintro e w1 ⟨rfl, rfl⟩)
  go_ret
  exact ⟨rfl, rfl⟩
theorem near_at {x y x' y' a b c d g h m : Nat} (ha : Wid x a) (hb : Wid y b) (hc : Wid x' c) (hd : Wid y' d) (hg : gapV a c = g) (h1 : nanB .f64 g = false) (hh : gapV b d = h) (h2 : nanB .f64 h = false) (l1 : leB g m = true) (l2 : leB h m = true) (w : World) :
    Calls Try.prog 10 #[.complex .f32 x y, .complex .f32 x' y', .float .f64 m] w fun e w' => e = .returned (.bool true) ∧ w' = w := by
  have HA := up_at ha.cv ha.num
  have HB := up_at hb.cv hb.num
  have HC := up_at hc.cv hc.num
  have HD := up_at hd.cv hd.num
  have HG := hid hg
  have HN := hid h1
  have HH := hid hh
  have HN2 := hid h2
  unfold leB at l1 l2
  clear hg h1 hh h2 ha hb hc hd
  go_enter Try.func10, Try.ntmps10
  go_wp2_with fail
  refine (gap_at HG.out HN.out _).mono ?_
  rintro e w1 ⟨rfl, rfl⟩
  go_wp2_with fail
  refine (gap_at HH.out HN2.out _).mono ?_
  rintro e w2 ⟨rfl, rfl⟩
  go_wp2
  go_ret
  exact ⟨rfl, rfl⟩
theorem angleOf_at {x y r : Nat} (hx : x < 2 ^ 32) (hy : y < 2 ^ 32) (hr : angTurnsV y x = r) (h : nanB .f32 r = false) (w : World) :
    Calls Try.prog 7 #[.complex .f32 x y] w fun e w' => e = .returned (.float .f32 r) ∧ Below w.heap.size w w' := by
  have HX := hid hx
  have HY := hid hy
  have HR := hid hr
  have HN := hid h
  clear hx hy hr h
  go_enter Try.func7, Try.ntmps7
  go_wp2_with (go_at_call 19; refine (implAngle_any _ _ HY.out HX.out _).mono ?_; rintro e w1 ⟨v, rfl, hv, hl, B1⟩)
  go_ret
  have e1 : nz .f32 v = r := hv.out.trans HR.out
  have e2 : nanB .f32 v = false := by rw [← nan_nz, e1]; exact HN.out
  rw [nz_num e2] at e1
  exact ⟨by rw [← e1]; rfl, B1⟩
theorem phasor_at {t x y : Nat} (ht : t < 2 ^ 64) (hx : phasorRe t = x) (hy : phasorIm t = y) (h1 : nanB .f32 x = false) (h2 : nanB .f32 y = false) (w : World) :
    Calls Try.prog 6 #[.float .f64 t] w fun e w' => e = .returned (.complex .f32 x y) ∧ ∃ n, w' = w.drewN n := by
  refine (implPhasor_any t ht w).mono fun e w' ⟨a, b, n, he, ha, hb, _, _, hw⟩ => ?_
  have e1 : nz .f32 a = x := ha.out.trans hx
  have e2 : nanB .f32 a = false := by rw [← nan_nz, e1]; exact h1
  rw [nz_num e2] at e1
  have e3 : nz .f32 b = y := hb.out.trans hy
  have e4 : nanB .f32 b = false := by rw [← nan_nz, e3]; exact h2
  rw [nz_num e4] at e3
  exact ⟨by rw [he, e1, e3], n, hw⟩
theorem specSame_at {x y : Nat} {u v : Int} (hx : x < 2 ^ 32) (hy : y < 2 ^ 32) (hu : bitsV x = u) (hv : bitsV y = v) (h : (u == v) = false) (w : World) :
    Calls Try.prog 24 #[.float .f32 x, .float .f32 y] w fun e w' => e = .returned (.bool false) ∧ w' = w := by
  have HX := hid hx
  have HY := hid hy
  have HU := hid hu
  have HV := hid hv
  clear hx hy hu hv
  go_enter Try.func24, Try.ntmps24
  go_wp2_with fail
  refine (specBits_any x HX.out _).mono ?_
  rw [HU.out]
  rintro e w1 ⟨rfl, rfl⟩
  go_wp2_with fail
  refine (specBits_any y HY.out _).mono ?_
  rw [HV.out]
  rintro e w2 ⟨rfl, rfl⟩
  go_wp2
  go_ret
  exact ⟨rfl, rfl⟩
theorem sameNumber_at (x y : Nat) (hx : x < 2 ^ 32) (hy : y < 2 ^ 32) (h : (bitsV x == bitsV y) = false) (w : World) :
    Calls Try.prog 13 #[.float .f32 x, .float .f32 y] w fun e w' => e = .returned (.bool false) ∧ w' = w := by
  have HX := hid hx
  have HY := hid hy
  obtain ⟨u, hu⟩ : ∃ u, bitsV x = u := ⟨_, rfl⟩
  obtain ⟨v, hv⟩ : ∃ v, bitsV y = v := ⟨_, rfl⟩
  have HU := hid hu
  have HV := hid hv
  rw [hu, hv] at h
  clear hx hy hu hv
  go_enter Try.func13, Try.ntmps13
  go_wp2_with fail
  refine (specSame_at HX.out HY.out HU.out HV.out h _).mono ?_
  rintro e w1 ⟨rfl, rfl⟩
  go_wp2
  go_ret
  exact ⟨rfl, rfl⟩
end Go.Proofs.Ytocclddnaaaohaa
