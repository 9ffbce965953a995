/- What FnCircles meets at two bytes, and at two others: all facts in one. No condition. -/
import Derived.Test.YtocclddnaaaohaaCf
import Derived.Test.YtocclddnaaaohaaCh
import Derived.Test.YtocclddnaaaohaaTl
namespace Go.Proofs.Ytocclddnaaaohaa
open Go Go.RowKit Go.Proofs.Ytocclddnaaaohaa.Fl

/-- A phasor of a 64th of a turn: its word, its parts, those widened. -/
structure Ph (c : Int) (t x y u v : Nat) : Prop where
  q : fop .quo .f64 (floatOfInt .f64 c) 4634204016564240384 = t
  qn : nanB .f64 t = false
  lt : t < 2 ^ 64
  re : phasorRe t = x
  im : phasorIm t = y
  n1 : nanB .f32 x = false
  n2 : nanB .f32 y = false
  l1 : x < 2 ^ 32
  l2 : y < 2 ^ 32
  w1 : Wid x u
  w2 : Wid y v
theorem ph_of (c : Int) (h0 : -256 ≤ c) (h1 : c ≤ 254) (k : Nat) (hk : k < 64) (hc : (c + 256) % 64 = (k : Int)) : Ph c (tW c) (PT.getD k (0, 0)).1 (PT.getD k (0, 0)).2 (PW.getD k (0, 0)).1 (PW.getD k (0, 0)).2 := by
  obtain ⟨i, hi⟩ : ∃ i : Nat, c = (i : Int) - 256 := ⟨(c + 256).toNat, by omega⟩
  have hi2 : i < 511 := by omega
  have hk2 : i % 64 = k := by omega
  obtain ⟨a1, a2, a3, a4⟩ := tW_all ⟨i, hi2⟩
  simp only at a1 a2 a3 a4
  rw [← hi] at a1 a2 a3 a4
  rw [hk2] at a4
  obtain ⟨b1, b2⟩ := ph_frac a1 a2
  rw [a4] at b1 b2
  obtain ⟨c1, c2⟩ := ph_all ⟨k, hk⟩
  obtain ⟨d1, d2, d3, d4, d5, d6, d7, d8⟩ := pt_all ⟨k, hk⟩
  exact ⟨rfl, nanB_fin (of_decide_eq_true a1), a3, b1.trans c1, b2.trans c2, d3, d4, d1, d2, ⟨d5, d7⟩, ⟨d6, d8⟩⟩
/-- The angle of a phasor: a is what it came from. -/
structure An (a : Int) (x y an aw a6 tu t1 : Nat) (wh : Int) (g : Nat) : Prop where
  at_ : angTurnsV y x = an
  n0 : nanB .f32 an = false
  up : fcv .f32 .f64 an = aw
  n1 : nanB .f64 aw = false
  mu : fop .mul .f64 aw 4634204016564240384 = a6
  n2 : nanB .f64 a6 = false
  su : fop .sub .f64 a6 (floatOfInt .f64 a) = tu
  n3 : nanB .f64 tu = false
  ad : fop .add .f64 tu 4666723447345250304 = t1
  n4 : nanB .f64 t1 = false
  wo : floatToIntVal .f64 t1 .i64 = some wh
  lo : -100000 ≤ wh
  hi : wh ≤ 100000
  re : Int.tmod (wh - 10000) 64 = 0
  ga : gapV tu (floatOfInt .f64 (wh - 10000)) = g
  n5 : nanB .f64 g = false
  le : (FloatKind.f64.format.order g 4562254508917369340 == some .gt) = false
theorem an_of (i : Nat) (hi : i < 256) : ∃ an aw a6 tu t1 wh g, An ((i : Int) - 128) (PT.getD (i % 64) (0, 0)).1 (PT.getD (i % 64) (0, 0)).2 an aw a6 tu t1 wh g := by
  obtain ⟨a1, a2, a3, a4, a5, a6⟩ := an_all ⟨i % 64, Nat.mod_lt _ (by decide)⟩
  obtain ⟨b1, b2⟩ := tu_all ⟨i, hi⟩
  obtain ⟨c1, c2, c3, c4, c5⟩ := wh_all ⟨i, hi⟩
  obtain ⟨d1, d2⟩ := gp_all ⟨i, hi⟩
  exact ⟨_, _, _, _, _, _, _, ⟨a1, a2, a3, a4, a5, a6, b1, b2, rfl, c1, c2, c3, c4, c5, rfl, d1, d2⟩⟩
/-- The power of a phasor. -/
structure Pw (u v r s z g : Nat) : Prop where
  pe : powE u v = r
  n0 : nanB .f64 r = false
  dn : fcv .f64 .f32 r = s
  n1 : nanB .f32 s = false
  up : fcv .f32 .f64 s = z
  n2 : nanB .f64 z = false
  ga : gapV z 4607182418800017408 = g
  n3 : nanB .f64 g = false
  le : (FloatKind.f64.format.order g 4547007122018943789 == some .gt) = false
theorem pw_of (k : Nat) (hk : k < 64) : ∃ r s z g, Pw (PW.getD k (0, 0)).1 (PW.getD k (0, 0)).2 r s z g := by
  obtain ⟨a1, a2, a3, a4, a5⟩ := pw_all ⟨k, hk⟩
  exact ⟨_, _, _, _, ⟨rfl, a1, rfl, a2, rfl, a3, rfl, a4, a5⟩⟩
/-- The product of two phasors is near that of the sum. -/
structure Mu (a b c d e f r s t u t' u' g h : Nat) : Prop where
  re : mulRe a b c d = r
  n0 : nanB .f64 r = false
  im : mulIm a b c d = s
  n1 : nanB .f64 s = false
  dr : fcv .f64 .f32 r = t
  n2 : nanB .f32 t = false
  di : fcv .f64 .f32 s = u
  n3 : nanB .f32 u = false
  w1 : Wid t t'
  w2 : Wid u u'
  ga : gapV t' e = g
  n4 : nanB .f64 g = false
  gb : gapV u' f = h
  n5 : nanB .f64 h = false
  l1 : leB g 4547007122018943789 = true
  l2 : leB h 4547007122018943789 = true
theorem mu_of {k l : Nat} (hk : k < 64) (hl : l < 64) : ∃ r s t u t' u' g h, Mu (PW.getD k (0, 0)).1 (PW.getD k (0, 0)).2 (PW.getD l (0, 0)).1 (PW.getD l (0, 0)).2 (PW.getD ((k + l) % 64) (0, 0)).1 (PW.getD ((k + l) % 64) (0, 0)).2 r s t u t' u' g h := by
  obtain ⟨a, b⟩ := pair_all hk hl
  exact ⟨_, _, _, _, _, _, _, _, ⟨rfl, a.n0, rfl, b.n0, rfl, a.n1, rfl, b.n1, ⟨rfl, a.n2⟩, ⟨rfl, b.n2⟩, rfl, a.n3, rfl, b.n3, a.le, b.le⟩⟩
/-- The tenths of two numbers and of their product. -/
structure Tn (k l : Nat) (x y z : Nat) (a b c : Int) : Prop where
  qx : fop .quo .f32 (floatOfInt .f32 ((k : Int) + 1)) 1090519040 = x
  qy : fop .quo .f32 (floatOfInt .f32 ((l : Int) + 1)) 1090519040 = y
  xn : nanB .f32 x = false
  yn : nanB .f32 y = false
  mz : fop .mul .f32 x y = z
  zn : nanB .f32 z = false
  xl : x < 2 ^ 32
  yl : y < 2 ^ 32
  zl : z < 2 ^ 32
  tx : tensI x = a
  ty : tensI y = b
  tz : tensI z = c
  bx : tensB x = true
  by_ : tensB y = true
  bz : tensB z = true
  ra : -1000 ≤ a ∧ a ≤ 1000
  rb : -1000 ≤ b ∧ b ≤ 1000
  rc : -1000 ≤ c ∧ c ≤ 1000
  u1 : a + b - c ≤ 1
  u2 : c - a - b ≤ 1
theorem xw_of {k : Nat} (hk : k < 200) : fop .quo .f32 (floatOfInt .f32 (1 + (k : Int))) 1090519040 = W32 (8 * (k + 1)) ∧ nanB .f32 (W32 (8 * (k + 1))) = false :=
  ⟨by rw [Int.add_comm]; exact xw_all ⟨k, hk⟩, nanB_fin (W32_fin (by omega) (by omega))⟩
theorem tn_of {k l : Nat} (hk : k < 200) (hl : l < 200) : ∃ z a b c, Tn k l (W32 (8 * (k + 1))) (W32 (8 * (l + 1))) z a b c := by
  have k1 : 1 ≤ k + 1 := by omega
  have l1 : 1 ≤ l + 1 := by omega
  have a1 : 1 ≤ 8 * (k + 1) := by omega
  have a2 : 8 * (k + 1) ≤ 40000 := by omega
  have b1 : 1 ≤ 8 * (l + 1) := by omega
  have b2 : 8 * (l + 1) ≤ 40000 := by omega
  have c1 : 1 ≤ (k + 1) * (l + 1) := Nat.mul_pos k1 l1
  have c2 : (k + 1) * (l + 1) ≤ 40000 := Nat.mul_le_mul (show k + 1 ≤ 200 by omega) (show l + 1 ≤ 200 by omega)
  obtain ⟨t1, e1, f1, g1, h1, i1, j1⟩ := tens_of a1 a2 (chk_mul (k := 8) (l := k + 1) (by decide) (by decide) k1 (by omega))
  obtain ⟨t2, e2, f2, g2, h2, i2, j2⟩ := tens_of b1 b2 (chk_mul (k := 8) (l := l + 1) (by decide) (by decide) l1 (by omega))
  obtain ⟨t3, e3, f3, g3, h3, i3, j3⟩ := tens_of c1 c2 (chk_mul (k := k + 1) (l := l + 1) k1 (by omega) l1 (by omega))
  obtain ⟨u1, u2⟩ := tens_law g1 g2 g3 i1 j1 i2 j2 i3 j3
  have lt : ∀ n, 1 ≤ n → n ≤ 40000 → W32 n < 2 ^ 32 := fun n h h' => Nat.lt_trans (W32_lt h h').2 (by decide)
  exact ⟨W32 ((k + 1) * (l + 1)), _, _, _, ⟨xw_all ⟨k, hk⟩, xw_all ⟨l, hl⟩, nanB_fin (W32_fin a1 a2), nanB_fin (W32_fin b1 b2), xw_mul k1 (by omega) l1 (by omega), nanB_fin (W32_fin c1 c2), lt _ a1 a2, lt _ b1 b2, lt _ c1 c2, e1, e2, e3, f1, f2, f3, ⟨by omega, by omega⟩, ⟨by omega, by omega⟩, ⟨by omega, by omega⟩, by omega, by omega⟩⟩
theorem one_tens : tensI 1065353216 = 0 ∧ tensB 1065353216 = true := by decide +kernel
theorem quart : angTurnsV 1065353216 0 = 1048576000 ∧ nanB .f32 1048576000 = false ∧ (bitsV 1048576000 == bitsV 0) = false := by decide +kernel
theorem tens_at' {x : Nat} {a : Int} (hx : x < 2 ^ 32) (ha : tensI x = a) (hb : tensB x = true) (w : World) :
    Calls Try.prog 12 #[.float .f32 x] w fun e w' => e = .returned (.tuple #[.int .i64 a, .bool true]) ∧ ∃ n, w' = w.drewN n := by
  refine (implTenthsOf_any x hx w).mono fun e w' ⟨h1, h2⟩ => ⟨by rw [h1, ha, hb], h2⟩
end Go.Proofs.Ytocclddnaaaohaa
