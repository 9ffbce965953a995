/- Slices of bytes that came in; what chooses a number by a byte. No condition. -/
import Derived.Test.YtocclddnaaaohaaArg
import Derived.Test.YtocclddnaaaohaaChecked
import Derived.KernelRfl
namespace Go.Proofs.Ytocclddnaaaohaa
open Go Go.RowKit Go.ChangeShapes Go.WideShapes Go.Deep Go.Joins Go.Proofs.Ytocclddnaaaohaa.Fl

/-- A slice of bytes that came in, nil or not. -/
def BArg (w : World) (A : Option Addr) (len : Nat) (V : Nat → Int) : Prop :=
  ∀ i, i < len → ∃ a : Addr, A = some a ∧ a.block < w.heap.size ∧ w.cell? (a.add i) = some (.int .u8 (V i)) ∧ 0 ≤ V i ∧ V i ≤ 255
theorem BArg.below {w w' : World} {A : Option Addr} {len : Nat} {V : Nat → Int} (h : BArg w A len V) (hb : Below w.heap.size w w') : BArg w' A len V := fun i hi => by
  obtain ⟨a, e, hlt, hc, hv⟩ := h i hi
  exact ⟨a, e, Nat.lt_of_lt_of_le hlt hb.size, (hb.cell (p := a.add i) (by rw [addb]; exact hlt)).trans hc, hv⟩
section
variable {H : Type} {enc : TypeId × Value → H} {P : Program} {w : World} {base : Nat} {spare : Nat → Bool} {held : Bool}
theorem trod_u8 {t : TypeId} {fuel : Nat} {cs : List Value} {x : DataW H × List MemPlace} (ht : P.underlying t = some (.int .u8)) (h : DataW.trod enc P w base spare held fuel t cs = some x) :
    ∃ n, cs = [.int .u8 n] ∧ x = (.lit (.int .u8 n), []) ∧ (Lit.int .u8 n).wf = true := by
  cases fuel with
  | zero => simp [DataW.trod] at h
  | succ n =>
    unfold DataW.trod at h
    rw [ht] at h
    split at h <;> simp_all
theorem u8s_of {t e : TypeId} {fuel : Nat} {cs : List Value} {x : DataW H × List MemPlace} (ht : P.underlying t = some (.slice e)) (he : P.underlying e = some (.int .u8)) (hc : P.cellsOf e = 1) (h : DataW.trod enc P w base spare held fuel t cs = some x) :
    ∃ A len cap V, cs = [.slice A len cap] ∧ len ≤ maxLen ∧ BArg w A len V := by
  rcases open_slice1 ht hc h with ⟨rfl, _⟩ | ⟨a, len, cap, m, n, V, D, Pl, rfl, hb, hl, hm, hmm, _, hx⟩
  · exact ⟨none, 0, 0, fun _ => 0, rfl, by unfold maxLen; omega, fun i hi => absurd hi (Nat.not_lt_zero _)⟩
  · have hle : len ≤ m := by rw [hmm]; split <;> omega
    obtain ⟨F, hF⟩ := choose_lt (α := Int) (n := m) (p := fun i b => V i = .int .u8 b ∧ 0 ≤ b ∧ b ≤ 255) (fun i hi => by
      obtain ⟨_, h2⟩ := hx i hi
      obtain ⟨b, hb1, _, hw⟩ := trod_u8 he h2
      exact ⟨b, by simpa using hb1, bounds_u8 hw⟩)
    refine ⟨some a, len, cap, F, rfl, by omega, fun i hi => ?_⟩
    have h1 := (hx i (by omega)).1
    rw [(hF i (by omega)).1] at h1
    have h2 := lt_of_cell h1
    rw [addb] at h2
    exact ⟨a, rfl, h2, h1, (hF i (by omega)).2⟩
theorem open_u8s {r : Reach} {b0 : Nat} {t e : TypeId} {v : Value} {d : DataW H} {p : List MemPlace} (ht : P.underlying t = some (.slice e)) (he : P.underlying e = some (.int .u8)) (hc : P.cellsOf e = 1)
    (hv : Value.okWide P w r b0 t v) (h : DataW.Trod enc P w base spare held t v d p) : ∃ A len cap V, v = .slice A len cap ∧ len ≤ maxLen ∧ BArg w A len V := by
  obtain ⟨A, len, cap, rfl⟩ := okWide_slice ht hv
  obtain ⟨fuel, hf⟩ := h
  obtain ⟨A', len', cap', V, hcs, hl, hF⟩ := u8s_of ht he hc hf
  simp [Value.cells] at hcs
  obtain ⟨rfl, rfl, rfl⟩ := hcs
  exact ⟨A, len, cap, V, rfl, hl, hF⟩
end
theorem at_a (A : Option Addr) (len cap : Nat) (V : Nat → Int) (w : World) (hl : len ≤ 1048576) (ha : BArg w A len V) :
    Calls Try.prog 5 #[.slice A len cap, .int .i64 0, .int .i64 256] w fun e w' => (∃ r : Nat, e = .returned (.int .i64 r) ∧ r < 256) ∧ w' = w := by
  have hlz : (len : Int) ≤ 1048576 := by omega
  have HA := hid ha
  clear ha
  by_cases hlt : 0 < len
  · obtain ⟨a, rfl, _, c1, v0, v1⟩ := HA.out 0 hlt
    rw [show a.add 0 = a from by unfold Addr.add; simp] at c1
    obtain ⟨x, hx⟩ : ∃ x, V 0 = x := ⟨_, rfl⟩
    rw [hx] at c1 v0 v1
    clear hx
    have hlt2 : (0 : Int) < (len : Int) := by omega
    go_enter Try.func5, Try.ntmps5
    go_wp2
    go_ret
    exact ⟨⟨(x % 256).toNat, by rw [Int.toNat_of_nonneg (Int.emod_nonneg x (by decide))]; rfl, by omega⟩, rfl⟩
  · have hlt2 : decide ((0 : Int) < (len : Int)) = false := decide_eq_false (by omega)
    go_enter Try.func5, Try.ntmps5
    go_wp2
    go_ret
    exact ⟨⟨11, rfl, by decide⟩, rfl⟩
theorem at_b (A : Option Addr) (len cap : Nat) (V : Nat → Int) (w : World) (hl : len ≤ 1048576) (ha : BArg w A len V) :
    Calls Try.prog 5 #[.slice A len cap, .int .i64 1, .int .i64 256] w fun e w' => (∃ r : Nat, e = .returned (.int .i64 r) ∧ r < 256) ∧ w' = w := by
  have hlz : (len : Int) ≤ 1048576 := by omega
  have HA := hid ha
  clear ha
  by_cases hlt : 1 < len
  · obtain ⟨j, hj⟩ : ∃ j : Nat, j = 1 := ⟨_, rfl⟩
    rw [show (1 : Int) = (j : Int) by rw [hj]; rfl]
    rw [← hj] at hlt
    clear hj
    obtain ⟨a, rfl, _, c1, v0, v1⟩ := HA.out j hlt
    obtain ⟨x, hx⟩ : ∃ x, V j = x := ⟨_, rfl⟩
    rw [hx] at c1 v0 v1
    clear hx
    have hlt2 : (j : Int) < (len : Int) := by omega
    go_enter Try.func5, Try.ntmps5
    go_wp2
    go_ret
    exact ⟨⟨(x % 256).toNat, by rw [Int.toNat_of_nonneg (Int.emod_nonneg x (by decide))]; rfl, by omega⟩, rfl⟩
  · have hlt2 : decide ((1 : Int) < (len : Int)) = false := decide_eq_false (by omega)
    go_enter Try.func5, Try.ntmps5
    go_wp2
    go_ret
    exact ⟨⟨48, rfl, by decide⟩, rfl⟩
theorem at_x (A : Option Addr) (len cap : Nat) (V : Nat → Int) (w : World) (hl : len ≤ 1048576) (ha : BArg w A len V) :
    Calls Try.prog 5 #[.slice A len cap, .int .i64 0, .int .i64 200] w fun e w' => (∃ r : Nat, e = .returned (.int .i64 r) ∧ r < 200) ∧ w' = w := by
  have hlz : (len : Int) ≤ 1048576 := by omega
  have HA := hid ha
  clear ha
  by_cases hlt : 0 < len
  · obtain ⟨a, rfl, _, c1, v0, v1⟩ := HA.out 0 hlt
    rw [show a.add 0 = a from by unfold Addr.add; simp] at c1
    obtain ⟨x, hx⟩ : ∃ x, V 0 = x := ⟨_, rfl⟩
    rw [hx] at c1 v0 v1
    clear hx
    have hlt2 : (0 : Int) < (len : Int) := by omega
    go_enter Try.func5, Try.ntmps5
    go_wp2
    go_ret
    exact ⟨⟨(x % 200).toNat, by rw [Int.toNat_of_nonneg (Int.emod_nonneg x (by decide))]; rfl, by omega⟩, rfl⟩
  · have hlt2 : decide ((0 : Int) < (len : Int)) = false := decide_eq_false (by omega)
    go_enter Try.func5, Try.ntmps5
    go_wp2
    go_ret
    exact ⟨⟨11, rfl, by decide⟩, rfl⟩
theorem at_y (A : Option Addr) (len cap : Nat) (V : Nat → Int) (w : World) (hl : len ≤ 1048576) (ha : BArg w A len V) :
    Calls Try.prog 5 #[.slice A len cap, .int .i64 1, .int .i64 200] w fun e w' => (∃ r : Nat, e = .returned (.int .i64 r) ∧ r < 200) ∧ w' = w := by
  have hlz : (len : Int) ≤ 1048576 := by omega
  have HA := hid ha
  clear ha
  by_cases hlt : 1 < len
  · obtain ⟨j, hj⟩ : ∃ j : Nat, j = 1 := ⟨_, rfl⟩
    rw [show (1 : Int) = (j : Int) by rw [hj]; rfl]
    rw [← hj] at hlt
    clear hj
    obtain ⟨a, rfl, _, c1, v0, v1⟩ := HA.out j hlt
    obtain ⟨x, hx⟩ : ∃ x, V j = x := ⟨_, rfl⟩
    rw [hx] at c1 v0 v1
    clear hx
    have hlt2 : (j : Int) < (len : Int) := by omega
    go_enter Try.func5, Try.ntmps5
    go_wp2
    go_ret
    exact ⟨⟨(x % 200).toNat, by rw [Int.toNat_of_nonneg (Int.emod_nonneg x (by decide))]; rfl, by omega⟩, rfl⟩
  · have hlt2 : decide ((1 : Int) < (len : Int)) = false := decide_eq_false (by omega)
    go_enter Try.func5, Try.ntmps5
    go_wp2
    go_ret
    exact ⟨⟨48, rfl, by decide⟩, rfl⟩
theorem long_no (A B : Option Addr) (l1 l2 c1 c2 : Nat) (h1 : l1 ≤ 1048576) (h2 : l2 ≤ 1048576) (w : World) :
    Calls Try.prog 4 #[.slice A l1 c1, .slice B l2 c2] w fun e w' => e = .returned (.bool false) ∧ w' = w := by
  have t1 : decide ((1048576 : Int) < (l1 : Int)) = false := decide_eq_false (by omega)
  have t2 : decide ((1048576 : Int) < (l2 : Int)) = false := decide_eq_false (by omega)
  go_enter Try.func4, Try.ntmps4
  go_wp2
  go_ret
  exact ⟨rfl, rfl⟩
theorem long_yes (A B : Option Addr) (l1 l2 c1 c2 : Nat) (h : 1048576 < l1 ∨ 1048576 < l2) (w : World) :
    Calls Try.prog 4 #[.slice A l1 c1, .slice B l2 c2] w fun e w' => e = .returned (.bool true) ∧ w' = w := by
  by_cases h1 : 1048576 < l1
  · have t1 : decide ((1048576 : Int) < (l1 : Int)) = true := decide_eq_true (by omega)
    clear h
    go_enter Try.func4, Try.ntmps4
    go_wp2
    go_ret
    exact ⟨rfl, rfl⟩
  · have t1 : decide ((1048576 : Int) < (l1 : Int)) = false := decide_eq_false (by omega)
    have t2 : decide ((1048576 : Int) < (l2 : Int)) = true := decide_eq_true (by omega)
    clear h
    go_enter Try.func4, Try.ntmps4
    go_wp2
    go_ret
    exact ⟨rfl, rfl⟩
end Go.Proofs.Ytocclddnaaaohaa
