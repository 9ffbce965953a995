/- Lists of 32-bit floats: their copies, what compares them, what marks them. No condition. -/
import Derived.Test.YtlpjclglhjcghaaDoorFin
import Derived.Test.YtlpjclglhjcghaaDoorArg
import Derived.Deep.RegionHeld
namespace Go.Proofs.YtlpjclglhjcghaaDoor
open Go.RowKit Go.Proofs.YtlpjclglhjcghaaDoor.Fl

theorem info32 : (Tryd.prog.info? 51).map (fun i => (i.zero, i.size, i.bytes)) = some (some (.float .f32 0), 1, 4) := by kernel_rfl
@[go_sem] theorem run_store_float {P : Program} {w : World} {a : Addr} {m : Mode} (k : FloatKind) (b : Nat) : (store a (.float k b) m).run P w = stored P w a (.float k b) m := run_store P w a _ m rfl
/-- A row of the call's own, filled up to k. -/
structure Fill (w wr : World) (g len k : Nat) (V : Nat → Nat) : Prop where
  there : ∀ j, j < len → ∃ u, wr.cell? ⟨g, j, none⟩ = some u
  vals : ∀ j, j < k → wr.cell? ⟨g, j, none⟩ = some (.float .f32 (V j))
  frz : ∀ j, wr.frozen? ⟨g, j, none⟩ = false
  low : Below g w wr
  big : g < wr.heap.size
theorem Fill.step {w wr : World} {g len k : Nat} {V : Nat → Nat} (h : Fill w wr g len k V) (hk : k < len) : Fill w (wr.setCell ⟨g, k, none⟩ (.float .f32 (V k))) g len (k + 1) V := by
  obtain ⟨u, hu⟩ := h.there k hk
  have ne : ∀ j, j ≠ k → (⟨g, k, none⟩ : Addr) ≠ ⟨g, j, none⟩ := fun j hj e => hj (by injection e with _ e2; exact e2.symm)
  refine ⟨fun j hj => ?_, fun j hj => ?_, fun j => by rw [World.frozen?_setCell]; exact h.frz j, h.low.setCell (Nat.le_refl _) _, by simp [World.setCell]; exact h.big⟩
  · by_cases e : j = k
    · subst e; exact ⟨_, World.cell?_setCell_same _ _ _ hu⟩
    · rw [World.cell?_setCell_other _ _ _ _ (ne j e)]; exact h.there j hj
  · by_cases e : j = k
    · subst e; exact World.cell?_setCell_same _ _ _ hu
    · rw [World.cell?_setCell_other _ _ _ _ (ne j e)]; exact h.vals j (by omega)
theorem Fill.start {w w1 : World} {e : TypeId} {len cap : Nat} {xs : List Value} (V : Nat → Nat) (hown : w1.ownsRow w.heap.size e 1 (.slice (some ⟨w.heap.size, 0, none⟩) len cap) len xs) (hgrow : w.grownBy w1 none) : Fill w w1 w.heap.size len 0 V := by
  have hl : xs.length = len * 1 := hown.1
  refine ⟨fun j hj => ?_, fun j hj => absurd hj (by omega), fun j => hown.frozenAt j, (Below.refl _ _).grown hgrow (Nat.le_refl _) (fun k h => by cases h), ?_⟩
  · rw [hown.cellAt j (by omega)]
    exact ⟨_, List.getElem?_eq_getElem (by omega)⟩
  · obtain ⟨_, h⟩ := hown
    rcases h with ⟨h, _⟩ | ⟨g, c, cur, h, _, hh, _⟩
    · cases h
    · injection h with h1 _ _
      injection h1 with h1
      injection h1 with h1
      rw [← h1] at hh
      exact (Array.getElem?_eq_some_iff.1 hh).1
/-- A copy: a new row with the floats. -/
def CopyF (len : Nat) (V : Nat → Nat) (w : World) (e : Ending) (w' : World) : Prop :=
  ∃ g, e = .returned (.slice (some ⟨g, 0, none⟩) len len) ∧ w.heap.size ≤ g ∧ g < w'.heap.size ∧ Row w' g len V ∧ Below w.heap.size w w'
set_option maxRecDepth 100000 in
theorem toF_any (A : Option Addr) (len cap : Nat) (V : Nat → Nat) (w : World) (hl : len ≤ 1048576) (ha : FArg w A len V) :
    Calls Tryd.prog 34 #[.slice A len cap] w (CopyF len V w) := by
  obtain ⟨i0, hi, hz0, hz1, hz2⟩ := info_parts info32
  have hlz : (len : Int) ≤ 1048576 := by omega
  have HA := hid ha
  clear ha
  go_enter Tryd.func34, Tryd.ntmps34
  go_wp2_with (refine wpList_make_full _ rfl _ _ _ rfl w.heap.size 51 i0 (.float .f32 0) 1 Tryd.underlying28 hi hz0 hz1 _ _ _ _ len rfl rfl rfl rfl (by rw [hz2]; omega) (by unfold maxLen; omega) (Nat.le_refl _) ?_; intro w1 hown hgrow)
  have HS := hid (Fill.start V hown hgrow)
  clear hown hgrow hi hz0 hz1 hz2
  go_loopw [4] (fun i wr => ∃ k : Nat, k ≤ len ∧ i = .int .i64 k ∧ Hid (Fill w wr w.heap.size len k V)) (fun i _ => len - (intOf i).toNat)
  case atStart => exact ⟨0, Nat.zero_le _, rfl, HS⟩
  case round =>
    obtain ⟨k, hk, rfl, hF⟩ := hrel
    by_cases hlt : k < len
    · obtain ⟨a, rfl, hab, hac, _⟩ := HA.out k hlt
      have hcx : wr.cell? (a.add k) = some (.float .f32 (V k)) := (hF.out.low.cell (p := a.add k) (by rw [addb]; exact hab)).trans hac
      obtain ⟨u, hu⟩ := hF.out.there k hlt
      have hfz := hF.out.frz k
      have HN := hid (hF.out.step hlt)
      clear hac hab
      go_wp2
      go_roundw
      case rel => exact ⟨k + 1, by omega, by go_num, HN⟩
      case measure => simp [intOf]; omega
    · obtain rfl : k = len := by omega
      go_wp2
      go_ret
      exact ⟨_, rfl, Nat.le_refl _, hF.out.big, ⟨hF.out.vals, hF.out.frz, fun i hi => by obtain ⟨_, _, _, _, hb⟩ := HA.out i hi; exact hb⟩, hF.out.low⟩

theorem upon_fcv {P : Program} {o : Oper} {a : Act} {w : World} {next : Act → World → Prop} {Q : Exit → Act → World → Prop} (src dst : TypeId) (s k : FloatKind) (b : Nat) (hne : s ≠ k) (hs : (P.underlying src).isSome = true) (hd : P.underlying dst = some (.float k)) (hn : narrows s k b) (hb : b < 2 ^ s.format.width)
    (hK : ∀ v n, Hid (nz k v = fcv s k b) → Hid (v < 2 ^ k.format.width) → next (a.put o.dst (.float k v)) (w.drewN n)) : o.upon P a next Q (((convert src dst (.float s b)).run P w).andThen fun v w' => Result.ok (Next.value v) w') := by
  obtain ⟨v, n, hrun, h1, h2⟩ := run_fcv (P := P) w src dst s k b hne hs hd hn hb
  rw [hrun]
  exact hK v n h1 h2
theorem same_two {x y v1 v2 : Nat} (hxy : Hid (nz .f32 x = nz .f32 y)) (h1 : Hid (nz .f64 v1 = fcv .f32 .f64 x)) (h2 : Hid (nz .f64 v2 = fcv .f32 .f64 y)) : nz .f64 v1 = nz .f64 v2 := by
  rw [h1.out, h2.out, ← fcv_nz x (by decide), ← fcv_nz y (by decide), hxy.out]
set_option maxRecDepth 100000 in
theorem eqF_any (A B : Option Addr) (len ca cb : Nat) (V V' : Nat → Nat) (w : World) (hl : len ≤ 1048576) (hg : FArg w A len V) (hh : FArg w B len V') (hV : ∀ i, i < len → nz .f32 (V i) = nz .f32 (V' i)) :
    Calls Tryd.prog 18 #[.slice A len ca, .slice B len cb] w fun e w' => e = .returned (.bool true) ∧ ∃ n, w' = w.drewN n := by
  have hlz : (len : Int) ≤ 1048576 := by omega
  have HV := hid hV
  have HG := hid hg
  have HH := hid hh
  clear hV hg hh
  go_enter Tryd.func18, Tryd.ntmps18
  go_wp2
  go_loopw [5] (fun i wr => ∃ k n : Nat, k ≤ len ∧ i = .int .i64 k ∧ wr = w.drewN n) (fun i _ => len - (intOf i).toNat)
  case atStart => exact ⟨0, 0, Nat.zero_le _, rfl, rfl⟩
  case round =>
    obtain ⟨k, n, hk, rfl, rfl⟩ := hrel
    by_cases hlt : k < len
    · obtain ⟨a, rfl, _, c1, b1⟩ := HG.out k hlt
      obtain ⟨b, rfl, _, c2, b2⟩ := HH.out k hlt
      have HVk := hid (HV.out k hlt)
      obtain ⟨x, hx⟩ : ∃ x, V k = x := ⟨_, rfl⟩
      obtain ⟨y, hy⟩ : ∃ y, V' k = y := ⟨_, rfl⟩
      rw [hx] at c1 b1 HVk
      rw [hy] at c2 b2 HVk
      have HX := hid b1
      have HY := hid b2
      clear hx hy b1 b2
      have i1 : (0 : Int) ≤ (k : Int) := by omega
      have i2 : (k : Int) < (len : Int) := by omega
      go_wp2_with fail
      go_region_held (fun w' => w'.cell? (a.add k) = some (.float .f32 x) ∧ w'.cell? (b.add k) = some (.float .f32 y)) (go_keep) (first | (refine upon_fcv _ _ _ _ x (by decide) rfl Tryd.underlying54 (narrows_up _) HX.out ?_; intro v m hv bv) | (refine upon_fcv _ _ _ _ y (by decide) rfl Tryd.underlying54 (narrows_up _) HY.out ?_; intro v m hv bv) | (go_at_call 43; refine (sameFloat_any _ _ (same_two (x := x) (y := y) HVk (by assumption) (by assumption)) _).mono ?_; rintro e w3 ⟨rfl, n3, rfl⟩))
      all_goals
        go_wp2
        go_roundw
        case rel => exact ⟨k + 1, _, by omega, by go_num, rfl⟩
        case measure => simp [intOf]; omega
    · obtain rfl : k = len := by omega
      go_wp2
      go_ret
      exact ⟨rfl, _, rfl⟩

/-- The mark of a number, as a 32-bit float. -/
def mkW (k i : Nat) : Nat := floatOfInt .f32 ((k : Int) + (i : Int))
theorem mkW_num (k j : Nat) : nanB .f32 (mkW k j) = false := by
  unfold mkW floatOfInt FloatKind.nearest FloatKind.encode
  simp only [Ieee.Format.write, nearest_eq]
  exact nanB_word .f32 _ (rung_le_inf _ _ _)
theorem mkW_lt (k j : Nat) : mkW k j < 2 ^ 32 := by
  unfold mkW floatOfInt FloatKind.nearest FloatKind.encode
  simp only [Ieee.Format.write, nearest_eq]
  have h := rung_le_inf Ieee.single ((k : Int) + (j : Int)).natAbs 0
  have hi : Ieee.single.infRung = 0x7f800000 := rfl
  have hs : Ieee.single.signWeight = 2 ^ 31 := rfl
  show Ieee.single.word _ (rung Ieee.single _ _) < _
  unfold Ieee.Format.word
  rw [hs]
  split <;> omega
/-- Only the row g has turned, since w. -/
structure Marks (w wr : World) (g len i k : Nat) : Prop where
  there : ∀ j, j < len → ∃ u, wr.cell? ⟨g, j, none⟩ = some u
  vals : ∀ j, j < i → wr.cell? ⟨g, j, none⟩ = some (.float .f32 (mkW k j))
  frz : ∀ j, wr.frozen? ⟨g, j, none⟩ = false
  only : w.grownBy wr (some g)
theorem only_setCell {a w : World} {g : Nat} (h : a.grownBy w (some g)) {p : Addr} (hp : p.block = g) (u : Value) : a.grownBy (w.setCell p u) (some g) :=
  ⟨h.os, h.tape, h.output, by simpa [World.setCell] using h.size, fun i hi hne => (Below.heap_setCell w p u i (by
    rintro rfl
    exact hne (by rw [hp]))).trans (h.block i hi hne)⟩
theorem Marks.step {w wr : World} {g len i k : Nat} (h : Marks w wr g len i k) (hi : i < len) : Marks w (wr.setCell ⟨g, i, none⟩ (.float .f32 (mkW k i))) g len (i + 1) k := by
  obtain ⟨u, hu⟩ := h.there i hi
  have ne : ∀ j, j ≠ i → (⟨g, i, none⟩ : Addr) ≠ ⟨g, j, none⟩ := fun j hj e => hj (by injection e with _ e2; exact e2.symm)
  refine ⟨fun j hj => ?_, fun j hj => ?_, fun j => by rw [World.frozen?_setCell]; exact h.frz j, only_setCell h.only rfl _⟩
  · by_cases e : j = i
    · subst e; exact ⟨_, World.cell?_setCell_same _ _ _ hu⟩
    · rw [World.cell?_setCell_other _ _ _ _ (ne j e)]; exact h.there j hj
  · by_cases e : j = i
    · subst e; exact World.cell?_setCell_same _ _ _ hu
    · rw [World.cell?_setCell_other _ _ _ _ (ne j e)]; exact h.vals j (by omega)
/-- A marked slice. -/
def MarkF (A : Option Addr) (len k : Nat) (w : World) (e : Ending) (w' : World) : Prop :=
  e = .returned (.int .i64 (k + len : Nat)) ∧ ∃ go : Option Nat, (∀ g, go = some g → 0 < len ∧ A = some ⟨g, 0, none⟩) ∧ w.grownBy w' go ∧ (0 < len → ∀ g, A = some ⟨g, 0, none⟩ → Row w' g len (mkW k))
set_option maxRecDepth 100000 in
theorem markF_any (A : Option Addr) (len cap k : Nat) (lo : Nat) (V : Nat → Nat) (w : World) (hl : len ≤ 1048576) (hk : k ≤ 16777216) (ha : FOwn w lo A len V) :
    Calls Tryd.prog 19 #[.slice A len cap, .int .i64 k] w (MarkF A len k w) := by
  have hlz : (len : Int) ≤ 1048576 := by omega
  have hkz : (k : Int) ≤ 16777216 := by omega
  by_cases h0 : 0 < len
  · obtain ⟨g, rfl, _, hlt, hr⟩ := ha h0
    have HS : Hid (Marks w w g len 0 k) := ⟨fun j hj => ⟨_, hr.cell j hj⟩, fun j hj => absurd hj (Nat.not_lt_zero _), hr.frz, World.grownBy.refl w _⟩
    clear hr ha
    go_enter Tryd.func19, Tryd.ntmps19
    go_wp2
    go_loopw [1, 5] (fun c i wr => ∃ j : Nat, j ≤ len ∧ i = .int .i64 j ∧ c = .int .i64 ((k : Int) + (j : Int)) ∧ Hid (Marks w wr g len j k)) (fun _ i _ => len - (intOf i).toNat)
    case atStart => exact ⟨0, Nat.zero_le _, rfl, by simp, HS⟩
    case round =>
      obtain ⟨j, hj, rfl, rfl, hM⟩ := hrel
      by_cases hjl : j < len
      · obtain ⟨u, hu⟩ := hM.out.there j hjl
        have hfz := hM.out.frz j
        have HN := hid (hM.out.step hjl)
        go_wp2
        go_roundw
        case rel => exact ⟨j + 1, by omega, by go_num, by go_num, HN⟩
        case measure => simp [intOf]; omega
      · obtain rfl : j = len := by omega
        go_wp2
        go_ret
        exact ⟨by simp, some g, (fun g' e => by injection e with e; subst e; exact ⟨h0, rfl⟩), hM.out.only, fun _ g' e => by injection e with e; injection e with e; subst e; exact ⟨hM.out.vals, hM.out.frz, fun i _ => mkW_lt k i⟩⟩
  · obtain rfl : len = 0 := by omega
    clear ha
    go_enter Tryd.func19, Tryd.ntmps19
    go_wp2
    go_loopw [1, 5] (fun c i wr => i = .int .i64 0 ∧ c = .int .i64 (k : Int) ∧ wr = w) (fun _ _ _ => 0)
    case atStart => exact ⟨rfl, rfl, rfl⟩
    case round =>
      obtain ⟨rfl, rfl, rfl⟩ := hrel
      go_wp2
      go_ret
      exact ⟨rfl, none, (fun g' e => by cases e), World.grownBy.refl _ _, fun h => absurd h (Nat.lt_irrefl _)⟩
set_option maxRecDepth 100000 in
theorem heldF_any (A : Option Addr) (len cap k : Nat) (w : World) (hl : len ≤ 1048576) (hk : k ≤ 16777216) (ha : FArg w A len (mkW k)) :
    Calls Tryd.prog 20 #[.slice A len cap, .int .i64 k] w fun e w' => e = .returned (.int .i64 (k + len : Nat)) ∧ w = w' := by
  have hlz : (len : Int) ≤ 1048576 := by omega
  have hkz : (k : Int) ≤ 16777216 := by omega
  have HA := hid ha
  clear ha
  go_enter Tryd.func20, Tryd.ntmps20
  go_wp2
  go_loop [1, 5] (fun c i => ∃ j : Nat, j ≤ len ∧ i = .int .i64 j ∧ c = .int .i64 ((k : Int) + (j : Int))) (fun _ i => len - (intOf i).toNat)
  case atStart => exact ⟨0, Nat.zero_le _, rfl, by simp⟩
  case round =>
    obtain ⟨j, hj, rfl, rfl⟩ := hrel
    by_cases hjl : j < len
    · obtain ⟨a, rfl, _, c1, _⟩ := HA.out j hjl
      have ho := mkW_num k j
      obtain ⟨x, hx⟩ : ∃ x, x = mkW k j := ⟨_, rfl⟩
      have hx' : floatOfInt .f32 ((k : Int) + (j : Int)) = x := hx.symm
      rw [← hx] at c1 ho
      have hne : (FloatKind.f32.format.order x x != some .eq) = false := by rw [ne_self]; exact ho
      clear hx ho
      go_wp2
      go_round
      case rel => exact ⟨j + 1, by omega, by go_num, by go_num⟩
      case measure => simp [intOf]; omega
    · obtain rfl : j = len := by omega
      go_wp2
      go_ret
      exact ⟨by simp, rfl⟩
end Go.Proofs.YtlpjclglhjcghaaDoor
