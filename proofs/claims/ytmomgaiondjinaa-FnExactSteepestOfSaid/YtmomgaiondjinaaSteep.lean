/- The slowness that no ray to a boundary has: of the reference and of the program. No condition. -/
import Derived.Test.YtmomgaiondjinaaHard
namespace Go.Proofs.Ytmomgaiondjinaa
open Go.RowKit Go.Proofs.Ytmomgaiondjinaa.Fl
theorem pos_word {x : Nat} (h : posB x = true) (hx : x < 2 ^ 32) : x < 2139095040 := by
  unfold posB at h
  simp only [Bool.and_eq_true] at h
  obtain ⟨h1, h2⟩ := h
  have hf : finW Ieee.single x := of_decide_eq_true h1
  have h0 : finW Ieee.single 0 := finW_zero .f32
  have ho : FloatKind.f32.format.order x 0 = some (compare (valW Ieee.single x) (valW Ieee.single 0)) := order_fin Ieee.single hf h0
  have v0 : valW Ieee.single 0 = 0 := by decide +kernel
  rw [ho, v0] at h2
  have hgt : 0 < valW Ieee.single x := by
    have : compare (valW Ieee.single x) 0 = .gt := by simpa using h2
    rw [Int.compare_eq_gt] at this; exact this
  have hsg : sgW Ieee.single x = false := by
    cases hs : sgW Ieee.single x
    · rfl
    · exfalso
      unfold valW at hgt
      rw [hs] at hgt
      simp at hgt
      omega
  have hi : Ieee.single.infRung = 2139095040 := rfl
  have hw : Ieee.single.signWeight = 2147483648 := rfl
  unfold finW rgW at hf
  unfold sgW at hsg
  rw [hi, hw] at hf
  rw [hw] at hsg
  have : x / 2147483648 % 2 ≠ 1 := by simpa using hsg
  omega
theorem gt_dec {x y : Nat} (hx : x < 2139095040) (hy : y < 2139095040) : (FloatKind.f32.format.order x y == some .gt) = decide (y < x) := by
  have ho : FloatKind.f32.format.order x y = some (compare x y) := order_word_fin Ieee.single hx hy
  rw [ho]
  by_cases h : y < x
  · rw [(Nat.compare_eq_gt).2 h]; simp [h]
  · have : compare x y ≠ .gt := fun e => h ((Nat.compare_eq_gt).1 e)
    simp [h, this]
theorem run_max_pos {x y : Nat} (hx : x < 2139095040) (hy : y < 2139095040) (P : Program) (ts : Array TypeId) (t : TypeId) (w : World) : (Builtin.max_ ts t #[.float .f32 x, .float .f32 y]).run P w = .ok (.float .f32 (max x y)) w := by
  have ho : FloatKind.f32.format.order x y = some (compare x y) := order_word_fin Ieee.single hx hy
  rcases Nat.lt_trichotomy x y with h | h | h
  · have e := (Nat.compare_eq_lt).2 h
    simp [Builtin.max_, Builtin.max2, ho, e]; omega
  · subst h
    have e : compare x x = .eq := by simp
    simp [Builtin.max_, Builtin.max2, ho]
  · have e := (Nat.compare_eq_gt).2 h
    simp [Builtin.max_, Builtin.max2, ho, e]; omega
/-- The greatest speed of the layers 0 .. k. -/
def mxV (L : Nat → Nat → Nat) : Nat → Nat
  | 0 => L 0 1
  | k + 1 => max (mxV L k) (L (k + 1) 1)
theorem layer_pos {w : World} {A : Option Addr} {n : Nat} {L : Nat → Nat → Nat} {s q : Nat} (hv : validB n L s q = true) (ha : LArg w A n L) {k : Nat} (hk : k < n) : L k 1 < 2139095040 := by
  have h := laysB_at (validB_iff hv).2.2.2.2 hk
  unfold layB at h
  simp only [Bool.and_eq_true] at h
  obtain ⟨_, _, _, hc⟩ := ha k hk
  exact pos_word h.2.1 (hc.2 1 (by omega)).2
theorem mxV_lt {L : Nat → Nat → Nat} {n : Nat} (h : ∀ k, k < n → L k 1 < 2139095040) : ∀ k, k < n → mxV L k < 2139095040
  | 0, hk => h 0 hk
  | k + 1, hk => by
    have h1 := mxV_lt h k (by omega)
    have h2 := h (k + 1) hk
    unfold mxV; omega
theorem mxV_up {L : Nat → Nat → Nat} {k : Nat} (h : mxV L k < L (k + 1) 1) : L (k + 1) 1 = mxV L (k + 1) := by unfold mxV; omega
theorem mxV_no {L : Nat → Nat → Nat} {k : Nat} (h : ¬ mxV L k < L (k + 1) 1) : mxV L k = mxV L (k + 1) := by
  show _ = max (mxV L k) (L (k + 1) 1); omega
def stpV (L : Nat → Nat → Nat) (k : Nat) : Nat := fop .quo .f32 1065353216 (mxV L k)
set_option maxHeartbeats 1000000 in
set_option maxRecDepth 100000 in
theorem specSteep_any (b : Nat) (A : Option Addr) (n c : Nat) (L : Nat → Nat → Nat) (s q : Nat) (k : Nat) (w : World) (hn : n ≤ 1048576) (hk : k < n) (hv : validB n L s q = true) (hG : GBox w b A n c s q) (ha : LArg w A n L) :
    Calls Try.prog 92 #[.pointer (some ⟨b, 0, none⟩), .int .i64 k] w (RetF .f32 (stpV L k) w) := by
  have hnz : (n : Int) ≤ 1048576 := by omega
  have HP := hid (fun j (hj : j < n) => layer_pos hv ha hj)
  have XGa := hG.c0
  have HA := hid ha
  have k1 : (k : Int) < (n : Int) := by omega
  have k0 : (0 : Int) < (n : Int) := by omega
  obtain ⟨ab, ao, x0, x1, x2, x3, rfl, hab, c0, c1, c2, c3, e0, e1, e2, e3, _, _, _, _⟩ := ha.get (show 0 < n by omega)
  have HE := hid e1
  clear ha hG hv e0 e1 e2 e3 c0 c2 c3
  go_enter Try.func92, Try.ntmps92
  go_wp2
  go_loop [5, 6] (fun m i => ∃ j v : Nat, j ≤ k ∧ i = .int .i64 ((j : Int) + 1) ∧ m = .float .f32 v ∧ Hid (v = mxV L j)) (fun _ i => k + 1 - (intOf i).toNat)
  case atStart => exact ⟨0, _, Nat.zero_le _, rfl, rfl, HE⟩
  case round =>
    obtain ⟨j, v, hj, rfl, rfl, hm⟩ := hrel
    by_cases hlt : j < k
    · have d1 : (j : Int) + 1 ≤ (k : Int) := by omega
      have d2 : (j : Int) + 1 < (n : Int) := by omega
      obtain ⟨ab', ao', y0, y1, y2, y3, hab', _, d0, c1', d2', d3, f0, f1, f2, f3, _, _, _, _⟩ := HA.out.get (show j + 1 < n by omega)
      injection hab' with hab'; injection hab' with hb1 hb2
      subst hb1 hb2
      have hy : y1 < 2139095040 := by rw [f1]; exact HP.out _ (by omega)
      have hvm : v < 2139095040 := by rw [hm.out]; exact mxV_lt HP.out j (by omega)
      have q4 := gt_dec hy hvm
      have t1 : (((j : Int) + 1).toNat) = j + 1 := by omega
      clear d0 d2' d3 f0 f2 f3 hab hy hvm
      by_cases hup : v < y1
      · have HN : Hid (y1 = mxV L (j + 1)) := by
          unfold Hid; rw [f1]; exact mxV_up (by rw [← hm.out, ← f1]; exact hup)
        rw [decide_eq_true hup] at q4
        clear hup f1
        go_wp2
        go_round
        case rel => exact ⟨j + 1, _, by omega, by go_num, rfl, HN⟩
        case measure => simp [intOf]; omega
      · have HN : Hid (v = mxV L (j + 1)) := by
          unfold Hid; rw [hm.out]; exact mxV_no (by rw [← hm.out, ← f1]; exact hup)
        rw [decide_eq_false hup] at q4
        clear hup f1
        go_wp2
        go_round
        case rel => exact ⟨j + 1, _, by omega, by go_num, rfl, HN⟩
        case measure => simp [intOf]; omega
    · obtain rfl : j = k := by omega
      go_wp2_with (refine wpList_fop _ rfl .quo _ _ _ _ rfl rfl _ _ _ rfl rfl ?_; intro z mz hz bz)
      go_ret
      exact ⟨z, _, rfl, by unfold Hid stpV; rw [hz.out, hm.out], bz, rfl⟩
def stpOk (n : Nat) (L : Nat → Nat → Nat) (s q : Nat) (k : Int) : Bool := boundB n L s q k && finB .f32 (stpV L k.toNat)
def stpE (n : Nat) (L : Nat → Nat → Nat) (s q : Nat) (k : Int) : Nat := if boundB n L s q k then finN true (stpV L k.toNat) else 0
theorem stp_cases {n : Nat} {L : Nat → Nat → Nat} {s q : Nat} {k : Int} (h : boundB n L s q k = false) : stpOk n L s q k = false ∧ stpE n L s q k = 0 := by
  unfold stpOk stpE; rw [h]; exact ⟨rfl, rfl⟩
theorem stp_yes {n : Nat} {L : Nat → Nat → Nat} {s q : Nat} {j : Nat} (h : boundB n L s q j = true) : stpOk n L s q j = finB .f32 (stpV L j) ∧ stpE n L s q j = finN true (stpV L j) := by
  have e : ((j : Int).toNat) = j := by omega
  unfold stpOk stpE; rw [h, e]; exact ⟨rfl, rfl⟩
theorem fin_of {x E : Nat} (h : nz .f32 x = E) : finB .f32 x = finB .f32 E := by rw [← h, fin_nz]
set_option maxHeartbeats 1000000 in
set_option maxRecDepth 100000 in
theorem specSteepestOf_any (A : Option Addr) (n c : Nat) (L : Nat → Nat → Nat) (s q : Nat) (k : Int) (w : World) (hn : n ≤ 1048576) (ha : LArg w A n L) :
    Calls Try.prog 39 #[.agg #[.slice A n c, .float .f32 s, .float .f32 q], .int .i64 k] w (RetFBW .f32 (stpE n L s q k) (stpOk n L s q k) w) := by
  have hbl := below_alloc1 w (.cells #[.slice A n c, .float .f32 s, .float .f32 q] 42)
  have HG := hid (GBox.new w 42 A n c s q)
  have HL := hid (ha.below hbl)
  have HN := hid hn
  clear ha hn
  cases hc : boundB n L s q k
  · have HC := hid hc
    have H := hid (stp_cases hc)
    clear hc
    go_enter Try.func39, Try.ntmps39
    go_wp2_with (go_at_call 91; refine (specBound_any _ A n c L s q k _ HN.out HG.out HL.out).mono ?_; rintro e w1 ⟨rfl, n1, rfl⟩; rw [HC.out])
    go_ret2
    exact ⟨0, by rw [H.out.1]; rfl, by rw [H.out.2]; exact nz_num (nanB_fin (finW_zero .f32)), hid32 (by decide), below_drewN hbl _⟩
  · obtain ⟨j, rfl, hj, hv⟩ := boundB_iff hc
    have HJ := hid hj
    have HV := hid hv
    have HC := hid hc
    have H := hid (stp_yes hc)
    clear hc hj hv
    go_enter Try.func39, Try.ntmps39
    go_wp2_with (go_at_call 91; refine (specBound_any _ A n c L s q _ _ HN.out HG.out HL.out).mono ?_; rintro e w1 ⟨rfl, n1, rfl⟩; rw [HC.out])
    refine (specSteep_any _ A n c L s q j _ HN.out HJ.out HV.out (by exact ⟨HG.out.c0, HG.out.c1, HG.out.c2, HG.out.lt⟩) (by exact HL.out)).mono ?_
    rintro e w1 ⟨x, n2, rfl, hx, bx, rfl⟩
    go_wp2_with fail
    refine (number_any x bx.out _).mono ?_
    rintro e w2 ⟨y, n3, rfl, hy, bY, rfl⟩
    go_wp2
    go_ret2
    exact ⟨y, by rw [H.out.1, ← fin_of hx.out]; rfl, by rw [H.out.2, ← finN_of hx.out]; exact hy, bY, below_drewN hbl _⟩
set_option maxHeartbeats 1000000 in
set_option maxRecDepth 100000 in
theorem implSteepestOf_any (A : Option Addr) (n : Nat) (L : Nat → Nat → Nat) (s q : Nat) (k : Int) (w : World) (hn : n ≤ 1048576) (ha : LArg w A n L) (bs : s < 2 ^ 32) (bq : q < 2 ^ 32) :
    Calls Try.prog 40 #[.agg #[.slice A n n, .float .f32 s, .float .f32 q], .int .i64 k] w (RetFBW .f32 (stpE n L s q k) (stpOk n L s q k) w) := by
  have hnz : (n : Int) ≤ 1048576 := by omega
  have hbl := below_alloc1 w (.cells #[.slice A n n, .float .f32 s, .float .f32 q] 42)
  have XG := GBox.new w 42 A n n s q
  have HL := ha.below hbl
  have HN := hid hn
  clear hn
  cases hc : boundB n L s q k
  · have HC := hid hc
    have H := hid (stp_cases hc)
    clear hc ha
    go_enter Try.func40, Try.ntmps40
    go_wp2_with fail
    refine (implBound_any A n n L s q k _ HN.out (by exact HL) bs bq).mono ?_
    rintro e w1 ⟨rfl, B1⟩
    rw [HC.out]
    have hb := below_step hbl B1 rfl rfl rfl rfl
    clear B1 hbl
    go_wp2
    go_ret2
    exact ⟨0, by rw [H.out.1]; rfl, by rw [H.out.2]; exact nz_num (nanB_fin (finW_zero .f32)), hid32 (by decide), hb⟩
  · obtain ⟨k, rfl, hj, hv⟩ := boundB_iff hc
    have HP := hid (fun j (hj : j < n) => layer_pos hv ha hj)
    have HC := hid hc
    have H := hid (stp_yes hc)
    have k1 : (k : Int) < (n : Int) := by omega
    have k0 : (0 : Int) < (n : Int) := by omega
    have k2 : (k : Int) + 1 ≤ (n : Int) := by omega
    clear hc hv ha
    go_enter Try.func40, Try.ntmps40
    go_wp2_with fail
    refine (implBound_any A n n L s q _ _ HN.out (by exact HL) bs bq).mono ?_
    rintro e w1 ⟨rfl, B1⟩
    rw [HC.out]
    have XG := XG.below B1
    have HA := hid (HL.below B1)
    have hb := below_step hbl B1 rfl rfl rfl rfl
    clear B1 hbl HL
    have XGa := XG.c0
    have HGl := hid XG
    clear XG
    obtain ⟨ab, ao, x0, x1, x2, x3, rfl, hab, c0, c1, c2, c3, e0, e1, e2, e3, _, _, _, _⟩ := HA.out.get (show 0 < n by omega)
    have HE : Hid (max x1 x1 = mxV L 0) := by unfold Hid mxV; rw [← e1]; omega
    have HE1 : Hid (x1 = L 0 1) := e1
    have HE0 : Hid (x1 < 2139095040) := by unfold Hid; rw [e1]; exact HP.out 0 (by omega)
    clear e0 e1 e2 e3 c0 c2 c3
    have B0 := Below.refl w1.heap.size w1
    go_wp2
    go_loopw [6, 24] (fun m i wr => ∃ j v : Nat, j ≤ k + 1 ∧ i = .int .i64 j ∧ m = .float .f32 v ∧ Hid (v < 2139095040) ∧ Hid (v = if j = 0 then L 0 1 else mxV L (j - 1)) ∧ Below w1.heap.size w1 wr) (fun _ i _ => k + 1 - (intOf i).toNat)
    case atStart => exact ⟨0, _, Nat.zero_le _, rfl, rfl, HE0, HE1, B0⟩
    case round =>
      obtain ⟨j, v, hj2, rfl, rfl, hvm, hm, hbl⟩ := hrel
      by_cases hlt : j < k + 1
      · have d1 : (j : Int) < (k : Int) + 1 := by omega
        have d2 : (0 : Int) ≤ (j : Int) := by omega
        obtain ⟨ab', ao', y0, y1, y2, y3, hab', hbb, g0, g1, g2, g3, f0, f1, f2, f3, _, _, _, _⟩ := (HA.out.below hbl).get (show j < n by omega)
        injection hab' with hab'; injection hab' with hb1 hb2
        subst hb1 hb2
        have hy : y1 < 2139095040 := by rw [f1]; exact HP.out _ (by omega)
        have HN : Hid (max v y1 = if j + 1 = 0 then L 0 1 else mxV L (j + 1 - 1)) := by
          unfold Hid; rw [if_neg (by omega), Nat.add_sub_cancel, hm.out, f1]
          by_cases e : j = 0
          · subst e; rw [if_pos rfl]; unfold mxV; omega
          · rw [if_neg e]
            obtain ⟨i, rfl⟩ : ∃ i, j = i + 1 := ⟨j - 1, by omega⟩
            rfl
        have HM : Hid (max v y1 < 2139095040) := by
          have := hvm.out
          unfold Hid; omega
        have hmx := run_max_pos hvm.out hy Try.prog
        have XGr := (hbl.cell (p := ⟨w.heap.size, 0, none⟩) HGl.out.lt).trans XGa
        clear f0 f1 f2 f3 hy
        go_wp2
        go_roundw
        case rel => exact ⟨j + 1, _, by omega, by go_num, rfl, HM, HN, by first | exact (hbl.alloc hbl.size _).setCell hbl.size _ | exact hbl.alloc hbl.size _⟩
        case measure => simp [intOf]; omega
      · obtain rfl : j = k + 1 := by omega
        have HF : Hid (v = mxV L k) := by unfold Hid; rw [hm.out, if_neg (by omega)]; rfl
        go_wp2_with (refine wpList_fop _ rfl .quo _ _ _ _ rfl rfl _ _ _ rfl rfl ?_; intro z mz hz bz)
        refine (finite_any z true bz.out _).mono ?_
        rintro e w2 ⟨y, n3, rfl, hy, bY, rfl⟩
        have hz2 : Hid (nz .f32 z = stpV L k) := by unfold Hid stpV; rw [hz.out, HF.out]
        have hb2 := below_step hb (hbl.mono (Nat.le_refl _)) rfl rfl rfl rfl
        go_wp2
        go_ret2
        exact ⟨y, by rw [H.out.1, ← fin_of hz2.out]; rfl, by rw [H.out.2, ← finN_of hz2.out]; exact hy, bY, below_drewN hb2 _⟩
end Go.Proofs.Ytmomgaiondjinaa
