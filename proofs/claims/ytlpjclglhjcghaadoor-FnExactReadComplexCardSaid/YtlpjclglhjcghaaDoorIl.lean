/- Lists of 64-bit integers: opened, copied, compared. No condition. -/
import Derived.Test.YtlpjclglhjcghaaDoorCmn
import Derived.Deep.Slices
import Derived.Deep.Fields
import Derived.Deep.RegionHeld
import Derived.Lib.SmallJoins
import Derived.Lib.Hide
namespace Go.Proofs.YtlpjclglhjcghaaDoor
open Go Go.RowKit Go.ChangeShapes Go.WideShapes Go.Deep Go.Joins

theorem addb (a : Addr) (n : Nat) : (a.add n).block = a.block := by unfold Addr.add; split <;> rfl
theorem lt_of_cell {w : World} {a : Addr} {v : Value} (h : w.cell? a = some v) : a.block < w.heap.size := by
  rcases Nat.lt_or_ge a.block w.heap.size with hlt | hge
  · exact hlt
  · exfalso
    unfold World.cell? at h
    simp [Array.getElem?_eq_none hge] at h
/-- A 64-bit integer. -/
def I64 (n : Int) : Prop := -9223372036854775808 ≤ n ∧ n ≤ 9223372036854775807
/-- A slice of 64-bit integers that came in, nil or not. -/
def IArg (w : World) (A : Option Addr) (len : Nat) (V : Nat → Int) : Prop :=
  ∀ i, i < len → ∃ a : Addr, A = some a ∧ a.block < w.heap.size ∧ w.cell? (a.add i) = some (.int .i64 (V i)) ∧ I64 (V i)
theorem IArg.below {w w' : World} {A : Option Addr} {len : Nat} {V : Nat → Int} (h : IArg w A len V) (hb : Below w.heap.size w w') : IArg w' A len V := fun i hi => by
  obtain ⟨a, e, hlt, hc, hv⟩ := h i hi
  exact ⟨a, e, Nat.lt_of_lt_of_le hlt hb.size, (hb.cell (p := a.add i) (by rw [addb]; exact hlt)).trans hc, hv⟩
section
variable {H : Type} {enc : TypeId × Value → H} {P : Program} {w : World} {base : Nat} {spare : Nat → Bool} {held : Bool}
theorem trod_i64 {t : TypeId} {fuel : Nat} {cs : List Value} {x : DataW H × List MemPlace} (ht : P.underlying t = some (.int .i64)) (h : DataW.trod enc P w base spare held fuel t cs = some x) :
    ∃ n, cs = [.int .i64 n] ∧ x = (.lit (.int .i64 n), []) ∧ (Lit.int .i64 n).wf = true := by
  cases fuel with
  | zero => simp [DataW.trod] at h
  | succ n =>
    unfold DataW.trod at h
    rw [ht] at h
    split at h <;> simp_all
theorem i64s_of {t e : TypeId} {fuel : Nat} {cs : List Value} {x : DataW H × List MemPlace} (ht : P.underlying t = some (.slice e)) (he : P.underlying e = some (.int .i64)) (hc : P.cellsOf e = 1) (h : DataW.trod enc P w base spare held fuel t cs = some x) :
    ∃ A len cap V, cs = [.slice A len cap] ∧ len ≤ maxLen ∧ IArg w A len V := by
  rcases open_slice1 ht hc h with ⟨rfl, _⟩ | ⟨a, len, cap, m, n, V, D, Pl, rfl, hb, hl, hm, hmm, _, hx⟩
  · exact ⟨none, 0, 0, fun _ => 0, rfl, by unfold maxLen; omega, fun i hi => absurd hi (Nat.not_lt_zero _)⟩
  · have hle : len ≤ m := by rw [hmm]; split <;> omega
    obtain ⟨F, hF⟩ := choose_lt (α := Int) (n := m) (p := fun i b => V i = .int .i64 b ∧ I64 b) (fun i hi => by
      obtain ⟨_, h2⟩ := hx i hi
      obtain ⟨b, hb1, _, hw⟩ := trod_i64 he h2
      exact ⟨b, by simpa using hb1, bounds_i64 hw⟩)
    refine ⟨some a, len, cap, F, rfl, by omega, fun i hi => ?_⟩
    have h1 := (hx i (by omega)).1
    rw [(hF i (by omega)).1] at h1
    have h2 := lt_of_cell h1
    rw [addb] at h2
    exact ⟨a, rfl, h2, h1, (hF i (by omega)).2⟩
theorem open_i64s {r : Reach} {b0 : Nat} {t e : TypeId} {v : Value} {d : DataW H} {p : List MemPlace} (ht : P.underlying t = some (.slice e)) (he : P.underlying e = some (.int .i64)) (hc : P.cellsOf e = 1)
    (hv : Value.okWide P w r b0 t v) (h : DataW.Trod enc P w base spare held t v d p) : ∃ A len cap V, v = .slice A len cap ∧ len ≤ maxLen ∧ IArg w A len V := by
  obtain ⟨A, len, cap, rfl⟩ := okWide_slice ht hv
  obtain ⟨fuel, hf⟩ := h
  obtain ⟨A', len', cap', V, hcs, hl, hF⟩ := i64s_of ht he hc hf
  simp [Value.cells] at hcs
  obtain ⟨rfl, rfl, rfl⟩ := hcs
  exact ⟨A, len, cap, V, rfl, hl, hF⟩
end
theorem info64 : (Tryd.prog.info? 2).map (fun i => (i.zero, i.size, i.bytes)) = some (some (.int .i64 0), 1, 8) := by kernel_rfl
/-- A row of the call's own, filled up to k. -/
structure FillI (w wr : World) (g len k : Nat) (V : Nat → Int) : Prop where
  there : ∀ j, j < len → ∃ u, wr.cell? ⟨g, j, none⟩ = some u
  vals : ∀ j, j < k → wr.cell? ⟨g, j, none⟩ = some (.int .i64 (V j))
  frz : ∀ j, wr.frozen? ⟨g, j, none⟩ = false
  low : Below g w wr
  big : g < wr.heap.size
theorem FillI.step {w wr : World} {g len k : Nat} {V : Nat → Int} (h : FillI w wr g len k V) (hk : k < len) : FillI w (wr.setCell ⟨g, k, none⟩ (.int .i64 (V k))) g len (k + 1) V := by
  obtain ⟨u, hu⟩ := h.there k hk
  have ne : ∀ j, j ≠ k → (⟨g, k, none⟩ : Addr) ≠ ⟨g, j, none⟩ := fun j hj e => hj (by injection e with _ e2; exact e2.symm)
  refine ⟨fun j hj => ?_, fun j hj => ?_, fun j => by rw [World.frozen?_setCell]; exact h.frz j, h.low.setCell (Nat.le_refl _) _, by simp [World.setCell]; exact h.big⟩
  · by_cases e : j = k
    · subst e; exact ⟨_, World.cell?_setCell_same _ _ _ hu⟩
    · rw [World.cell?_setCell_other _ _ _ _ (ne j e)]; exact h.there j hj
  · by_cases e : j = k
    · subst e; exact World.cell?_setCell_same _ _ _ hu
    · rw [World.cell?_setCell_other _ _ _ _ (ne j e)]; exact h.vals j (by omega)
theorem FillI.start {w w1 : World} {e : TypeId} {len cap : Nat} {xs : List Value} (V : Nat → Int) (hown : w1.ownsRow w.heap.size e 1 (.slice (some ⟨w.heap.size, 0, none⟩) len cap) len xs) (hgrow : w.grownBy w1 none) : FillI w w1 w.heap.size len 0 V := by
  have hl : xs.length = len * 1 := hown.1
  refine ⟨fun j hj => ?_, fun j hj => absurd hj (by omega), fun j => hown.frozenAt j, (Below.refl _ _).grown hgrow (Nat.le_refl _) (fun k h => by cases h), ?_⟩
  · rw [hown.cellAt j (by omega)]
    exact ⟨_, List.getElem?_eq_getElem (by omega)⟩
  · obtain ⟨_, h⟩ := hown
    rcases h with ⟨h, _⟩ | ⟨g, c, cur, h, _, hh, _⟩
    · cases h
    · injection h with h1 _ _
      injection h1 with h1
      injection h1 with h1
      rw [← h1] at hh
      exact (Array.getElem?_eq_some_iff.1 hh).1
theorem add_plain0 (g k : Nat) : (⟨g, 0, none⟩ : Addr).add k = ⟨g, k, none⟩ := by
  unfold Addr.add; by_cases h : k = 0 <;> simp [h]
/-- A copy: a new row with the numbers. -/
def CopyI (len : Nat) (V : Nat → Int) (w : World) (e : Ending) (w' : World) : Prop :=
  ∃ g, e = .returned (.slice (some ⟨g, 0, none⟩) len len) ∧ w.heap.size ≤ g ∧ IArg w' (some ⟨g, 0, none⟩) len V ∧ Below w.heap.size w w'
set_option maxRecDepth 100000 in
theorem toI_any (A : Option Addr) (len cap : Nat) (V : Nat → Int) (w : World) (hl : len ≤ 1048576) (ha : IArg w A len V) :
    Calls Tryd.prog 31 #[.slice A len cap] w (CopyI len V w) := by
  obtain ⟨i0, hi, hz0, hz1, hz2⟩ := info_parts info64
  have hlz : (len : Int) ≤ 1048576 := by omega
  have HA := Lib.hid ha
  clear ha
  go_enter Tryd.func31, Tryd.ntmps31
  go_wp2_with (refine wpList_make_full _ rfl _ _ _ rfl w.heap.size 2 i0 (.int .i64 0) 1 Tryd.underlying22 hi hz0 hz1 _ _ _ _ len rfl rfl rfl rfl (by rw [hz2]; omega) (by unfold maxLen; omega) (Nat.le_refl _) ?_; intro w1 hown hgrow)
  have HS := Lib.hid (FillI.start V hown hgrow)
  clear hown hgrow hi hz0 hz1 hz2
  go_loopw [4] (fun i wr => ∃ k : Nat, k ≤ len ∧ i = .int .i64 k ∧ Hid (FillI w wr w.heap.size len k V)) (fun i _ => len - (RowKit.intOf i).toNat)
  case atStart => exact ⟨0, Nat.zero_le _, rfl, HS⟩
  case round =>
    obtain ⟨k, hk, rfl, hF⟩ := hrel
    by_cases hlt : k < len
    · obtain ⟨a, rfl, hab, hac, _⟩ := HA.out k hlt
      have hcx : wr.cell? (a.add k) = some (.int .i64 (V k)) := (hF.out.low.cell (p := a.add k) (by rw [addb]; exact hab)).trans hac
      obtain ⟨u, hu⟩ := hF.out.there k hlt
      have hfz := hF.out.frz k
      have HN := Lib.hid (hF.out.step hlt)
      clear hac hab
      go_wp2
      go_roundw
      case rel => exact ⟨k + 1, by omega, by go_num, HN⟩
      case measure => simp [RowKit.intOf]; omega
    · obtain rfl : k = len := by omega
      go_wp2
      go_ret
      exact ⟨_, rfl, Nat.le_refl _, fun i hi => ⟨_, rfl, hF.out.big, by rw [add_plain0]; exact hF.out.vals i hi, by obtain ⟨_, _, _, _, hb⟩ := HA.out i hi; exact hb⟩, hF.out.low⟩

set_option maxRecDepth 100000 in
theorem eqI_any (A B : Option Addr) (len ca cb : Nat) (V : Nat → Int) (w : World) (hl : len ≤ 1048576) (hg : IArg w A len V) (hh : IArg w B len V) :
    Calls Tryd.prog 13 #[.slice A len ca, .slice B len cb] w fun e w' => e = .returned (.bool true) ∧ ∃ n, w' = w.drewN n := by
  have hlz : (len : Int) ≤ 1048576 := by omega
  have HG := Lib.hid hg
  have HH := Lib.hid hh
  clear hg hh
  go_enter Tryd.func13, Tryd.ntmps13
  go_wp2
  go_loopw [5] (fun i wr => ∃ k n : Nat, k ≤ len ∧ i = .int .i64 k ∧ wr = w.drewN n) (fun i _ => len - (RowKit.intOf i).toNat)
  case atStart => exact ⟨0, 0, Nat.zero_le _, rfl, rfl⟩
  case round =>
    obtain ⟨k, n, hk, rfl, rfl⟩ := hrel
    by_cases hlt : k < len
    · obtain ⟨a, rfl, _, c1, _⟩ := HG.out k hlt
      obtain ⟨b, rfl, _, c2, _⟩ := HH.out k hlt
      obtain ⟨x, hx⟩ : ∃ x, V k = x := ⟨_, rfl⟩
      rw [hx] at c1 c2
      clear hx
      have i1 : (0 : Int) ≤ (k : Int) := by omega
      have i2 : (k : Int) < (len : Int) := by omega
      go_wp2_with fail
      go_region
      all_goals
        go_wp2
        go_roundw
        case rel => exact ⟨k + 1, _, by omega, by go_num, rfl⟩
        case measure => simp [RowKit.intOf]; omega
    · obtain rfl : k = len := by omega
      go_wp2
      go_ret
      exact ⟨rfl, _, rfl⟩
end Go.Proofs.YtlpjclglhjcghaaDoor
