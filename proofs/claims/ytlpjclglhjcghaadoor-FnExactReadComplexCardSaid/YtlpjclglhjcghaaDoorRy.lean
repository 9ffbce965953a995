/- Lists of complex numbers marked and held. No condition. -/
import Derived.Test.YtlpjclglhjcghaaDoorRx
namespace Go.Proofs.YtlpjclglhjcghaaDoor
open Go Go.RowKit Go.Lib

@[go_sem] theorem run_store_complex {P : Program} {w : World} {a : Addr} {m : Mode} (k : FloatKind) (b c : Nat) : (store a (.complex k b c) m).run P w = stored P w a (.complex k b c) m := run_store P w a _ m rfl
/-- The mark of a number, as a 32-bit float. -/
def mkN (n : Int) : Nat := Fl.fcv .f64 .f32 (floatOfInt .f64 n)
theorem mk_conv (n : Int) (h : n.natAbs ≤ 33554432) : floatToFloatBits .f64 (floatOfInt .f64 n) .f32 = some (mkN n) ∧ Fl.nanB .f32 (mkN n) = false := by
  have e25 : (2 : Nat) ^ 25 = 33554432 := by decide
  have hb := Fl.ofInt_bd (e := n) (K := 25) (by rw [e25]; exact h) (by decide)
  have hn : Fl.nanB .f64 (floatOfInt .f64 n) = false := Fl.nanB_fin hb.1
  rcases Fl.narrows_bd hb (by decide) with h1 | h1
  · rw [hn] at h1; cases h1
  · obtain ⟨r, hr⟩ := Option.isSome_iff_exists.1 h1
    have e : mkN n = r := by unfold mkN Fl.fcv; rw [hr]; rfl
    rw [e]
    exact ⟨hr, Fl.nanB_cv (by decide) hr⟩
theorem mk_one : floatToFloatBits .f64 4607182418800017408 .f32 = some 1065353216 := by decide +kernel
set_option maxRecDepth 100000 in
theorem mk_both (n : Int) (h : n.natAbs ≤ 33554432) (w : World) : (convert 59 56 (.complex .f64 (floatOfInt .f64 n) 4607182418800017408)).run Tryd.prog w = .ok (.complex .f32 (mkN n) 1065353216) w :=
  run_convert_complex w 59 56 .f64 .f32 _ _ _ _ rfl Tryd.underlying56 (by unfold cConvBits; rw [(mk_conv n h).1, mk_one]; rfl)
/-- The marks, as complex numbers. -/
def mkCm (k j : Nat) : Nat × Nat := (mkN ((k : Int) + (j : Int)), 1065353216)
/-- Only the row g has turned, since w. -/
structure MarksC (w wr : World) (g len i k : Nat) : Prop where
  there : ∀ j, j < len → ∃ u, wr.cell? ⟨g, j, none⟩ = some u
  vals : ∀ j, j < i → wr.cell? ⟨g, j, none⟩ = some (.complex .f32 (mkCm k j).1 (mkCm k j).2)
  frz : ∀ j, wr.frozen? ⟨g, j, none⟩ = false
  only : w.grownBy wr (some g)
theorem only_setC {a w : World} {g : Nat} (h : a.grownBy w (some g)) {p : Addr} (hp : p.block = g) (u : Value) : a.grownBy (w.setCell p u) (some g) :=
  ⟨h.os, h.tape, h.output, by simpa [World.setCell] using h.size, fun i hi hne => (Below.heap_setCell w p u i (by
    rintro rfl
    exact hne (by rw [hp]))).trans (h.block i hi hne)⟩
theorem MarksC.step {w wr : World} {g len i k : Nat} (h : MarksC w wr g len i k) (hi : i < len) : MarksC w (wr.setCell ⟨g, i, none⟩ (.complex .f32 (mkN ((k : Int) + (i : Int))) 1065353216)) g len (i + 1) k := by
  obtain ⟨u, hu⟩ := h.there i hi
  have ne : ∀ j, j ≠ i → (⟨g, i, none⟩ : Addr) ≠ ⟨g, j, none⟩ := fun j hj e => hj (by injection e with _ e2; exact e2.symm)
  refine ⟨fun j hj => ?_, fun j hj => ?_, fun j => by rw [World.frozen?_setCell]; exact h.frz j, only_setC h.only rfl _⟩
  · by_cases e : j = i
    · subst e; exact ⟨_, World.cell?_setCell_same _ _ _ hu⟩
    · rw [World.cell?_setCell_other _ _ _ _ (ne j e)]; exact h.there j hj
  · by_cases e : j = i
    · subst e; exact World.cell?_setCell_same _ _ _ hu
    · rw [World.cell?_setCell_other _ _ _ _ (ne j e)]; exact h.vals j (by omega)
/-- A marked slice. -/
def MarkCI (lo hi : Nat) (A : Option Addr) (len k : Nat) (w : World) (e : Ending) (w' : World) : Prop :=
  e = .returned (.int .i64 ((k : Int) + (len : Int))) ∧ ∃ go : Option Nat, (∀ g, go = some g → lo ≤ g) ∧ w.grownBy w' go ∧ Hid (CIn w' lo hi A len (mkCm k))
set_option maxRecDepth 100000 in
theorem markC_in (A : Option Addr) (len cap k : Nat) (lo hi : Nat) (V : Nat → Nat × Nat) (w : World) (hl : len ≤ 1048576) (hk : k ≤ 16777216) (ha : CIn w lo hi A len V) :
    Calls Tryd.prog 24 #[.slice A len cap, .int .i64 k] w (MarkCI lo hi A len k w) := by
  have hlz : (len : Int) ≤ 1048576 := by omega
  have hkz : (k : Int) ≤ 16777216 := by omega
  by_cases h0 : 0 < len
  · obtain ⟨g, rfl, hlo, hhi, hlt, hr⟩ := ha h0
    have HS : Hid (MarksC w w g len 0 k) := ⟨fun j hj => ⟨_, hr.cell j hj⟩, fun j hj => absurd hj (Nat.not_lt_zero _), hr.frz, World.grownBy.refl w _⟩
    clear hr ha
    go_enter Tryd.func24, Tryd.ntmps24
    go_wp2
    go_loopw [1, 5] (fun c i wr => ∃ j : Nat, j ≤ len ∧ i = .int .i64 j ∧ c = .int .i64 ((k : Int) + (j : Int)) ∧ Hid (MarksC w wr g len j k)) (fun _ i _ => len - (RowKit.intOf i).toNat)
    case atStart => exact ⟨0, Nat.zero_le _, rfl, by simp, HS⟩
    case round =>
      obtain ⟨j, hj, rfl, rfl, hM⟩ := hrel
      by_cases hjl : j < len
      · obtain ⟨u, hu⟩ := hM.out.there j hjl
        have hfz := hM.out.frz j
        have HN := Lib.hid (hM.out.step hjl)
        have hcv := mk_both ((k : Int) + (j : Int)) (by omega) wr
        go_wp2
        go_roundw
        case rel => exact ⟨j + 1, by omega, by go_num, by go_num, HN⟩
        case measure => simp [RowKit.intOf]; omega
      · obtain rfl : j = len := by omega
        go_wp2
        go_ret
        exact ⟨rfl, some g, (fun g' e => by injection e with e; subst e; exact hlo), hM.out.only, fun _ => ⟨g, rfl, hlo, hhi, Nat.lt_of_lt_of_le hlt hM.out.only.size, hM.out.vals, hM.out.frz⟩⟩
  · obtain rfl : len = 0 := by omega
    clear ha
    go_enter Tryd.func24, Tryd.ntmps24
    go_wp2
    go_loopw [1, 5] (fun c i wr => i = .int .i64 0 ∧ c = .int .i64 (k : Int) ∧ wr = w) (fun _ _ _ => 0)
    case atStart => exact ⟨rfl, rfl, rfl⟩
    case round =>
      obtain ⟨rfl, rfl, rfl⟩ := hrel
      go_wp2
      go_ret
      exact ⟨by simp, none, (fun g' e => by cases e), World.grownBy.refl _ _, fun h => absurd h (Nat.lt_irrefl _)⟩
set_option maxRecDepth 100000 in
theorem heldC_in (A : Option Addr) (len cap k : Nat) (w : World) (hl : len ≤ 1048576) (hk : k ≤ 16777216) (ha : CArg w A len (mkCm k)) :
    Calls Tryd.prog 25 #[.slice A len cap, .int .i64 k] w fun e w' => e = .returned (.int .i64 ((k : Int) + (len : Int))) ∧ w = w' := by
  have hlz : (len : Int) ≤ 1048576 := by omega
  have hkz : (k : Int) ≤ 16777216 := by omega
  have HA := Lib.hid ha
  clear ha
  go_enter Tryd.func25, Tryd.ntmps25
  go_wp2
  go_loop [1, 5] (fun c i => ∃ j : Nat, j ≤ len ∧ i = .int .i64 j ∧ c = .int .i64 ((k : Int) + (j : Int))) (fun _ i => len - (RowKit.intOf i).toNat)
  case atStart => exact ⟨0, Nat.zero_le _, rfl, by simp⟩
  case round =>
    obtain ⟨j, hj, rfl, rfl⟩ := hrel
    by_cases hjl : j < len
    · obtain ⟨a, rfl, _, c1⟩ := HA.out j hjl
      have hcv := mk_both ((k : Int) + (j : Int)) (by omega) w
      have hnan := (mk_conv ((k : Int) + (j : Int)) (by omega)).2
      obtain ⟨x, hx⟩ : ∃ x, x = mkN ((k : Int) + (j : Int)) := ⟨_, rfl⟩
      unfold mkCm at c1
      simp only at c1
      rw [← hx] at c1 hnan hcv
      have heq := Fl.eq_self .f32 x
      rw [hnan] at heq
      have heq1 : (FloatKind.f32.format.order 1065353216 1065353216 == some .eq) = true := by decide +kernel
      clear hx hnan
      go_wp2
      go_round
      case rel => exact ⟨j + 1, by omega, by go_num, by go_num⟩
      case measure => simp [RowKit.intOf]; omega
    · obtain rfl : j = len := by omega
      go_wp2
      go_ret
      exact ⟨rfl, rfl⟩
end Go.Proofs.YtlpjclglhjcghaaDoor
