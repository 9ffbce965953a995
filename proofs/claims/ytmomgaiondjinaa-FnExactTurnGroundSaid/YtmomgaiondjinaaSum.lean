/- SumNumbers and DotNumbers of the program and of the reference. No condition. -/
import Derived.Test.YtmomgaiondjinaaList
namespace Go.Proofs.Ytmomgaiondjinaa
open Go.RowKit Go.Proofs.Ytmomgaiondjinaa.Fl
def sumV (V : Nat → Nat) : Nat → Nat
  | 0 => 0
  | k + 1 => fop .add .f32 (sumV V k) (V k)
def dotV (V U : Nat → Nat) : Nat → Nat
  | 0 => 0
  | k + 1 => fop .add .f32 (dotV V U k) (fop .mul .f32 (V k) (U k))
theorem sum_step {V : Nat → Nat} {k s v x : Nat} (hs : Hid (nz .f32 s = sumV V k)) (hx : Hid (x = V k)) (hv : Hid (nz .f32 v = fop .add .f32 s x)) : Hid (nz .f32 v = sumV V (k + 1)) := by
  unfold Hid sumV; rw [hv.out, ← fop_nz_left .add .f32 s, hs.out, hx.out]
theorem dot_step {V U : Nat → Nat} {k s v x y z : Nat} (hs : Hid (nz .f32 s = dotV V U k)) (hx : Hid (x = V k)) (hy : Hid (y = U k)) (hz : Hid (nz .f32 z = fop .mul .f32 x y)) (hv : Hid (nz .f32 v = fop .add .f32 s z)) : Hid (nz .f32 v = dotV V U (k + 1)) := by
  unfold Hid dotV; rw [hv.out, ← fop_nz_left .add .f32 s, hs.out, ← fop_nz_right .add .f32 _ z, hz.out, hx.out, hy.out]

set_option maxRecDepth 100000 in
theorem specSum_any (A : Option Addr) (len cap : Nat) (V : Nat → Nat) (w : World) (hl : len ≤ 1048576) (hg : FArg w A len V) :
    Calls Try.prog 64 #[.slice A len cap] w (RetF .f32 (sumV V len) w) := by
  have hlz : (len : Int) ≤ 1048576 := by omega
  have HG := hid hg
  clear hg
  go_enter Try.func64, Try.ntmps64
  go_wp2
  go_loopw [3, 4] (fun s i wr => ∃ k n v : Nat, k ≤ len ∧ i = .int .i64 k ∧ s = .float .f32 v ∧ Hid (nz .f32 v = sumV V k) ∧ Hid (v < 2 ^ FloatKind.f32.format.width) ∧ wr = w.drewN n) (fun _ i _ => len - (intOf i).toNat)
  case atStart => exact ⟨0, 0, 0, Nat.zero_le _, rfl, rfl, nz_num (nanB_fin (finW_zero .f32)), by unfold Hid; decide, rfl⟩
  case round =>
    obtain ⟨k, n, s, hk, rfl, rfl, hs, bs, rfl⟩ := hrel
    by_cases hlt : k < len
    · obtain ⟨a, rfl, _, c1, _⟩ := HG.out k hlt
      obtain ⟨x, hx⟩ : ∃ x, x = V k := ⟨_, rfl⟩
      rw [← hx] at c1
      have HX := hid hx
      clear hx
      go_wp2_with (refine wpList_fop _ rfl _ _ _ _ _ rfl rfl _ _ _ rfl rfl ?_; intro v m hv bv)
      go_roundw
      case rel => exact ⟨k + 1, _, v, by omega, by go_num, rfl, sum_step hs HX hv, bv, rfl⟩
      case measure => simp [intOf]; omega
    · obtain rfl : k = len := by omega
      go_wp2
      go_ret
      exact ⟨s, _, rfl, hs, bs, rfl⟩
set_option maxRecDepth 100000 in
theorem implSum_any (A : Option Addr) (len cap : Nat) (V : Nat → Nat) (w : World) (hl : len ≤ 1048576) (hg : FArg w A len V) :
    Calls Try.prog 65 #[.slice A len cap] w (RetF .f32 (sumV V len) w) := by
  have hlz : (len : Int) ≤ 1048576 := by omega
  have HG := hid hg
  clear hg
  go_enter Try.func65, Try.ntmps65
  go_wp2
  go_loopw [3, 8] (fun s i wr => ∃ k n v : Nat, k ≤ len ∧ i = .int .i64 k ∧ s = .float .f32 v ∧ Hid (nz .f32 v = sumV V k) ∧ Hid (v < 2 ^ FloatKind.f32.format.width) ∧ wr = w.drewN n) (fun _ i _ => len - (intOf i).toNat)
  case atStart => exact ⟨0, 0, 0, Nat.zero_le _, rfl, rfl, nz_num (nanB_fin (finW_zero .f32)), by unfold Hid; decide, rfl⟩
  case round =>
    obtain ⟨k, n, s, hk, rfl, rfl, hs, bs, rfl⟩ := hrel
    by_cases hlt : k < len
    · obtain ⟨a, rfl, _, c1, _⟩ := HG.out k hlt
      obtain ⟨x, hx⟩ : ∃ x, x = V k := ⟨_, rfl⟩
      rw [← hx] at c1
      have HX := hid hx
      clear hx
      go_wp2_with (refine wpList_fop _ rfl _ _ _ _ _ rfl rfl _ _ _ rfl rfl ?_; intro v m hv bv)
      go_roundw
      case rel => exact ⟨k + 1, _, v, by omega, by go_num, rfl, sum_step hs HX hv, bv, rfl⟩
      case measure => simp [intOf]; omega
    · obtain rfl : k = len := by omega
      go_wp2
      go_ret
      exact ⟨s, _, rfl, hs, bs, rfl⟩
theorem specSumN_yes (A : Option Addr) (len cap : Nat) (V : Nat → Nat) (w : World) (hl : len ≤ 256) (hg : FArg w A len V) :
    Calls Try.prog 24 #[.slice A len cap] w (RetFB .f32 (sumV V len) true w) := by
  have hlz : (len : Int) ≤ 256 := by omega
  have HG := hid hg
  clear hg
  go_enter Try.func24, Try.ntmps24
  go_wp2_with (first | (go_at_call 64; refine (specSum_any A len cap V _ (by omega) HG.out).mono ?_; rintro e w1 ⟨v, n, rfl, hv, bv, rfl⟩) | go_in)
  go_ret2
  exact ⟨v, n, rfl, hv, bv, rfl⟩
theorem specSumN_no (A : Option Addr) (len cap : Nat) (w : World) (hl : ¬ len ≤ 256) :
    Calls Try.prog 24 #[.slice A len cap] w (RetFB .f32 0 false w) := by
  have hlz : ¬ (len : Int) ≤ 256 := by omega
  go_enter Try.func24, Try.ntmps24
  go_wp2_with go_in
  go_ret2
  exact ⟨0, 0, rfl, nz_num (nanB_fin (finW_zero .f32)), by unfold Hid; decide, rfl⟩
theorem implSumN_yes (A : Option Addr) (len cap : Nat) (V : Nat → Nat) (w : World) (hl : len ≤ 256) (hg : FArg w A len V) :
    Calls Try.prog 25 #[.slice A len cap] w (RetFB .f32 (sumV V len) true w) := by
  have hlz : (len : Int) ≤ 256 := by omega
  have HG := hid hg
  clear hg
  go_enter Try.func25, Try.ntmps25
  go_wp2_with (first | (go_at_call 65; refine (implSum_any A len cap V _ (by omega) HG.out).mono ?_; rintro e w1 ⟨v, n, rfl, hv, bv, rfl⟩) | go_in)
  go_ret2
  exact ⟨v, n, rfl, hv, bv, rfl⟩
theorem implSumN_no (A : Option Addr) (len cap : Nat) (w : World) (hl : ¬ len ≤ 256) :
    Calls Try.prog 25 #[.slice A len cap] w (RetFB .f32 0 false w) := by
  have hlz : ¬ (len : Int) ≤ 256 := by omega
  go_enter Try.func25, Try.ntmps25
  go_wp2_with go_in
  go_ret2
  exact ⟨0, 0, rfl, nz_num (nanB_fin (finW_zero .f32)), by unfold Hid; decide, rfl⟩
theorem upon_fop {P : Program} {o : Oper} {a : Act} {w : World} {next : Act → World → Prop} {Q : Exit → Act → World → Prop} (op : BinOp) (har : arith op = true) (t : TypeId) (k : FloatKind) (x y : Nat)
    (hK : ∀ v n, Hid (nz k v = fop op k x y) → Hid (v < 2 ^ k.format.width) → next (a.put o.dst (.float k v)) (w.drewN n)) : o.upon P a next Q (((binOp op t (.float k x) (.float k y)).run P w).andThen fun v w' => Result.ok (Next.value v) w') := by
  obtain ⟨v, n, hrun, h1, h2⟩ := run_fop (P := P) w op har t k x y
  rw [hrun]
  exact hK v n h1 h2
set_option maxRecDepth 100000 in
theorem specDot_any (A B : Option Addr) (len ca cb : Nat) (V U : Nat → Nat) (w : World) (hl : len ≤ 1048576) (hg : FArg w A len V) (hh : FArg w B len U) :
    Calls Try.prog 62 #[.slice A len ca, .slice B len cb] w (RetF .f32 (dotV V U len) w) := by
  have hlz : (len : Int) ≤ 1048576 := by omega
  have HG := hid hg
  have HH := hid hh
  clear hg hh
  go_enter Try.func62, Try.ntmps62
  go_wp2
  go_loopw [5, 6] (fun s i wr => ∃ k n v : Nat, k ≤ len ∧ i = .int .i64 k ∧ s = .float .f32 v ∧ Hid (nz .f32 v = dotV V U k) ∧ Hid (v < 2 ^ FloatKind.f32.format.width) ∧ wr = w.drewN n) (fun _ i _ => len - (intOf i).toNat)
  case atStart => exact ⟨0, 0, 0, Nat.zero_le _, rfl, rfl, nz_num (nanB_fin (finW_zero .f32)), by unfold Hid; decide, rfl⟩
  case round =>
    obtain ⟨k, n, s, hk, rfl, rfl, hs, bs, rfl⟩ := hrel
    by_cases hlt : k < len
    · obtain ⟨a, rfl, _, c1, b1⟩ := HG.out k hlt
      obtain ⟨b, rfl, _, c2, b2⟩ := HH.out k hlt
      obtain ⟨x, hx⟩ : ∃ x, x = V k := ⟨_, rfl⟩
      obtain ⟨y, hy⟩ : ∃ y, y = U k := ⟨_, rfl⟩
      rw [← hx] at c1
      rw [← hy] at c2
      have HX := hid hx
      have HY := hid hy
      clear hx hy b1 b2
      have i1 : (0 : Int) ≤ (k : Int) := by omega
      have i2 : (k : Int) < (len : Int) := by omega
      go_wp2_with fail
      go_region_held (fun w' => w'.cell? (a.add k) = some (.float .f32 x) ∧ w'.cell? (b.add k) = some (.float .f32 y)) (go_keep) (first | (refine upon_fop .mul rfl _ _ x y ?_; intro z mz hz bz) | (refine upon_fop .add rfl _ _ _ _ ?_; intro v m hv bv))
      all_goals
        go_wp2
        go_roundw
        case rel => exact ⟨k + 1, _, _, by omega, by go_num, rfl, dot_step hs HX HY hz hv, bv, rfl⟩
        case measure => simp [intOf]; omega
    · obtain rfl : k = len := by omega
      go_wp2
      go_ret
      exact ⟨s, _, rfl, hs, bs, rfl⟩
theorem specDotN_yes (A B : Option Addr) (len ca cb : Nat) (V U : Nat → Nat) (w : World) (hl : len ≤ 256) (hg : FArg w A len V) (hh : FArg w B len U) :
    Calls Try.prog 19 #[.slice A len ca, .slice B len cb] w (RetFB .f32 (dotV V U len) true w) := by
  have hlz : (len : Int) ≤ 256 := by omega
  have HG := hid hg
  have HH := hid hh
  clear hg hh
  go_enter Try.func19, Try.ntmps19
  go_wp2_with (first | (go_at_call 62; refine (specDot_any A B len ca cb V U _ (by omega) HG.out HH.out).mono ?_; rintro e w1 ⟨v, n, rfl, hv, bv, rfl⟩) | go_in)
  go_ret2
  exact ⟨v, n, rfl, hv, bv, rfl⟩
theorem specDotN_no (A B : Option Addr) (len lb ca cb : Nat) (w : World) (hl : ¬ (len ≤ 256 ∧ len = lb)) :
    Calls Try.prog 19 #[.slice A len ca, .slice B lb cb] w (RetFB .f32 0 false w) := by
  by_cases h1 : len ≤ 256
  · have h2 : ¬ (len : Int) = (lb : Int) := by omega
    have hlz : (len : Int) ≤ 256 := by omega
    clear hl
    go_enter Try.func19, Try.ntmps19
    go_wp2_with go_in
    go_ret2
    exact ⟨0, 0, rfl, nz_num (nanB_fin (finW_zero .f32)), by unfold Hid; decide, rfl⟩
  · have hlz : ¬ (len : Int) ≤ 256 := by omega
    clear hl
    go_enter Try.func19, Try.ntmps19
    go_wp2_with go_in
    go_ret2
    exact ⟨0, 0, rfl, nz_num (nanB_fin (finW_zero .f32)), by unfold Hid; decide, rfl⟩
theorem isList_yes (A : Option Addr) (len ca : Nat) (w : World) (hl : len ≤ 256) : Calls Try.prog 63 #[.slice A len ca] w fun e w' => e = .returned (.bool true) ∧ w = w' := by
  have hlz : (len : Int) ≤ 256 := by omega
  go_enter Try.func63, Try.ntmps63
  go_wp2
  go_ret
  exact ⟨rfl, rfl⟩
set_option maxRecDepth 100000 in
theorem implDotN_yes (A B : Option Addr) (len ca cb : Nat) (V U : Nat → Nat) (w : World) (hl : len ≤ 256) (hg : FArg w A len V) (hh : FArg w B len U) :
    Calls Try.prog 21 #[.slice A len ca, .slice B len cb] w (RetFB .f32 (dotV V U len) true w) := by
  have hlz : (len : Int) ≤ 256 := by omega
  have HG := hid hg
  have HH := hid hh
  clear hg hh
  go_enter Try.func21, Try.ntmps21
  go_wp2_with (go_at_call 63; refine (isList_yes _ _ _ _ hl).mono ?_; rintro e w1 ⟨rfl, rfl⟩)
  go_loopw [6, 21] (fun s i wr => ∃ k n v : Nat, k ≤ len ∧ i = .int .i64 k ∧ s = .float .f32 v ∧ Hid (nz .f32 v = dotV V U k) ∧ Hid (v < 2 ^ FloatKind.f32.format.width) ∧ wr = w.drewN n) (fun _ i _ => len - (intOf i).toNat)
  case atStart => exact ⟨0, 0, 0, Nat.zero_le _, rfl, rfl, nz_num (nanB_fin (finW_zero .f32)), by unfold Hid; decide, rfl⟩
  case round =>
    obtain ⟨k, n, s, hk, rfl, rfl, hs, bs, rfl⟩ := hrel
    by_cases hlt : k < len
    · obtain ⟨a, rfl, _, c1, b1⟩ := HG.out k hlt
      obtain ⟨b, rfl, _, c2, b2⟩ := HH.out k hlt
      obtain ⟨x, hx⟩ : ∃ x, x = V k := ⟨_, rfl⟩
      obtain ⟨y, hy⟩ : ∃ y, y = U k := ⟨_, rfl⟩
      rw [← hx] at c1
      rw [← hy] at c2
      have HX := hid hx
      have HY := hid hy
      clear hx hy b1 b2
      have i1 : (0 : Int) ≤ (k : Int) := by omega
      have i2 : (k : Int) < (len : Int) := by omega
      go_wp2_with (first | (refine wpList_fop _ rfl .mul _ _ _ _ rfl rfl _ x y rfl rfl ?_; intro z mz hz bz) | (refine wpList_fop _ rfl .add _ _ _ _ rfl rfl _ _ _ rfl rfl ?_; intro v m hv bv))
      go_roundw
      case rel => exact ⟨k + 1, _, _, by omega, by go_num, rfl, dot_step hs HX HY hz hv, bv, rfl⟩
      case measure => simp [intOf]; omega
    · obtain rfl : k = len := by omega
      go_wp2
      go_ret2
      exact ⟨s, _, rfl, hs, bs, rfl⟩
theorem implDotN_no (A B : Option Addr) (len lb ca cb : Nat) (w : World) (hl : ¬ (len ≤ 256 ∧ len = lb)) :
    Calls Try.prog 21 #[.slice A len ca, .slice B lb cb] w (RetFB .f32 0 false w) := by
  by_cases h1 : len ≤ 256
  · have h2 : ¬ (len : Int) = (lb : Int) := by omega
    have hlz : (len : Int) ≤ 256 := by omega
    clear hl
    go_enter Try.func21, Try.ntmps21
    go_wp2_with go_in
    go_ret2
    exact ⟨0, 0, rfl, nz_num (nanB_fin (finW_zero .f32)), by unfold Hid; decide, rfl⟩
  · have hlz : ¬ (len : Int) ≤ 256 := by omega
    clear hl
    go_enter Try.func21, Try.ntmps21
    go_wp2_with go_in
    go_ret2
    exact ⟨0, 0, rfl, nz_num (nanB_fin (finW_zero .f32)), by unfold Hid; decide, rfl⟩
end Go.Proofs.Ytmomgaiondjinaa
