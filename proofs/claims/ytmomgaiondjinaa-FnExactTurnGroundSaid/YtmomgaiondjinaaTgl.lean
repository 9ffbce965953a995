/- Grounds of the call's own: marked, held, compared. No condition. -/
import Derived.Test.YtmomgaiondjinaaTgi
namespace Go.Proofs.Ytmomgaiondjinaa
open Go.RowKit Go.Proofs.Ytmomgaiondjinaa.Fl
/-- Layers in a block from lo on, below hi. -/
def LIn (w : World) (lo hi : Nat) (A : Option Addr) (n : Nat) (X : Nat → Nat → Nat) : Prop := 0 < n → ∃ g, A = some ⟨g, 0, none⟩ ∧ lo ≤ g ∧ g < hi ∧ g < w.heap.size ∧ LRow w g n X
theorem LIn.below {w w' : World} {lo hi : Nat} {A : Option Addr} {n : Nat} {X : Nat → Nat → Nat} (h : LIn w lo hi A n X) (hb : Below w.heap.size w w') : LIn w' lo hi A n X := fun hn => by
  obtain ⟨g, e, hl, hh, hlt, hr⟩ := h hn
  exact ⟨g, e, hl, hh, Nat.lt_of_lt_of_le hlt hb.size, hr.of_block (hb.block g hlt)⟩
theorem LIn.only {w w' : World} {lo hi l h : Nat} {A : Option Addr} {n : Nat} {X : Nat → Nat → Nat} (f : LIn w l h A n X) (k : OnlyIn lo hi w w') (hd : h ≤ lo ∨ hi ≤ l) : LIn w' l h A n X := fun hn => by
  obtain ⟨g, e, hl, hh, hlt, hr⟩ := f hn
  exact ⟨g, e, hl, hh, Nat.lt_of_lt_of_le hlt k.size, hr.of_block (k.block g hlt (by omega))⟩
theorem LIn.drewN {w : World} {lo hi : Nat} {A : Option Addr} {n : Nat} {X : Nat → Nat → Nat} (h : LIn w lo hi A n X) (m : Nat) : LIn (w.drewN m) lo hi A n X := fun hn => by
  obtain ⟨g, e, hl, hh, hlt, hr⟩ := h hn
  exact ⟨g, e, hl, hh, hlt, hr.1, hr.2, hr.3⟩
theorem LIn.arg {w : World} {lo hi : Nat} {A : Option Addr} {n : Nat} {X : Nat → Nat → Nat} (h : LIn w lo hi A n X) : LArg w A n X := fun i hi => by
  obtain ⟨g, e, _, _, hlt, hr⟩ := h (by omega)
  subst e
  exact hr.arg hlt i hi
theorem LOwn.in_ {w : World} {lo : Nat} {A : Option Addr} {n : Nat} {X : Nat → Nat → Nat} (h : LOwn w lo A n X) : LIn w lo w.heap.size A n X := fun hn => by
  obtain ⟨g, e, hl, hlt, hr⟩ := h hn; exact ⟨g, e, hl, hlt, hlt, hr⟩
theorem LIn.own {w : World} {lo hi : Nat} {A : Option Addr} {n : Nat} {X : Nat → Nat → Nat} (h : LIn w lo hi A n X) : LOwn w lo A n X := fun hn => by
  obtain ⟨g, e, hl, _, hlt, hr⟩ := h hn; exact ⟨g, e, hl, hlt, hr⟩
theorem mulV_bd (x y : Nat) : mulV x y < 2 ^ 32 := by
  unfold mulV
  cases h : floatBits .mul .f32 x y with
  | none => decide
  | some r => have h := floatBits_wf h; simpa [Lit.wf] using h
theorem lstN_bd {x : Nat} (h : x < 2 ^ 32) (b : Bool) : lstN x b < 2 ^ 32 := by unfold lstN; split <;> omega
theorem markG_E (A : Option Addr) (len cap k lo hi s q : Nat) (X : Nat → Nat → Nat) (w : World) (hl : len ≤ 1048576) (hk : k ≤ 16777216) (h : LIn w lo hi A len X) :
    Calls Try.prog 49 #[.agg #[.slice A len cap, .float .f32 s, .float .f32 q], .int .i64 k] w fun e w' => e = .returned (.int .i64 (k + 4 * len : Nat)) ∧ OnlyIn lo hi w w' ∧ LIn w' lo hi A len (fun i j => mkW k (i * 4 + j)) := by
  have hst := below_alloc1 w (.cells #[.slice A len cap, .float .f32 s, .float .f32 q] 42)
  have hr' := h.own.below hst
  have HH := hid (h.below hst)
  go_enter Try.func49, Try.ntmps49
  go_wp2_with fail
  refine (markL_any A len cap k lo X _ hl hk hr').mono ?_
  rintro e w' ⟨rfl, go, hgo, hgr, hc⟩
  have hO : OnlyIn lo hi w w' := by
    refine ⟨hgr.os.trans hst.os, hgr.tape.trans hst.tape, hgr.output.trans hst.output, Nat.le_trans hst.size hgr.size, fun b hb hd => (hgr.block b (Nat.lt_of_lt_of_le hb hst.size) (fun e => ?_)).trans (hst.block b hb)⟩
    obtain ⟨hn, hA⟩ := hgo b e.symm
    obtain ⟨g, e2, hl2, hh2, _, _⟩ := h hn
    rw [hA] at e2; injection e2 with e2; injection e2 with e2
    omega
  have hI : Hid (LIn w' lo hi A len (fun i j => mkW k (i * 4 + j))) := fun hn => by
    obtain ⟨g, e2, hl2, hh2, hlt, _⟩ := HH.out hn
    exact ⟨g, e2, hl2, hh2, Nat.lt_of_lt_of_le hlt hgr.size, hc hn g e2⟩
  clear hgr hc hgo hst hr' HH h
  go_wp2
  go_ret
  exact ⟨rfl, hO, hI.out⟩
set_option maxHeartbeats 1000000 in
set_option maxRecDepth 100000 in
theorem heldL_any (A : Option Addr) (len cap k : Nat) (w : World) (hl : len ≤ 1048576) (hk : k ≤ 16777216) (ha : LArg w A len (fun i j => mkW k (i * 4 + j))) :
    Calls Try.prog 108 #[.slice A len cap, .int .i64 k] w fun e w' => e = .returned (.int .i64 (k + 4 * len : Nat)) ∧ w = w' := by
  have hlz : (len : Int) ≤ 1048576 := by omega
  have hkz : (k : Int) ≤ 16777216 := by omega
  have HA := hid ha
  clear ha
  go_enter Try.func108, Try.ntmps108
  go_wp2
  go_loop [1, 5] (fun c i => ∃ j : Nat, j ≤ len ∧ i = .int .i64 j ∧ c = .int .i64 ((k : Int) + 4 * (j : Int))) (fun _ i => len - (intOf i).toNat)
  case atStart => exact ⟨0, Nat.zero_le _, rfl, by simp⟩
  case round =>
    obtain ⟨j, hj, rfl, rfl⟩ := hrel
    by_cases hjl : j < len
    · obtain ⟨b, off, x0, x1, x2, x3, rfl, _, c0, c1, c2, c3, e0, e1, e2, e3, _, _, _, _⟩ := HA.out.get hjl
      have hx0 : floatOfInt .f32 ((k : Int) + 4 * (j : Int)) = x0 := by rw [e0]; unfold mkW; congr 1; omega
      have hx1 : floatOfInt .f32 ((k : Int) + 4 * (j : Int) + 1) = x1 := by rw [e1]; unfold mkW; congr 1; omega
      have hx2 : floatOfInt .f32 ((k : Int) + 4 * (j : Int) + 1 + 1) = x2 := by rw [e2]; unfold mkW; congr 1; omega
      have hx3 : floatOfInt .f32 ((k : Int) + 4 * (j : Int) + 1 + 1 + 1) = x3 := by rw [e3]; unfold mkW; congr 1; omega
      have n0 : (FloatKind.f32.format.order x0 x0 != some .eq) = false := by rw [ne_self, e0]; exact mkW_num _ _
      have n1 : (FloatKind.f32.format.order x1 x1 != some .eq) = false := by rw [ne_self, e1]; exact mkW_num _ _
      have n2 : (FloatKind.f32.format.order x2 x2 != some .eq) = false := by rw [ne_self, e2]; exact mkW_num _ _
      have n3 : (FloatKind.f32.format.order x3 x3 != some .eq) = false := by rw [ne_self, e3]; exact mkW_num _ _
      clear e0 e1 e2 e3
      go_wp2
      go_round
      case rel => exact ⟨j + 1, by omega, by go_num, congrArg (Value.int .i64) (by omega)⟩
      case measure => simp [intOf]; omega
    · obtain rfl : j = len := by omega
      go_wp2
      go_ret
      exact ⟨congrArg (fun n => Ending.returned (Value.int .i64 n)) (by omega), rfl⟩
theorem heldG_E (A : Option Addr) (len cap k lo hi s q : Nat) (w : World) (hl : len ≤ 1048576) (hk : k ≤ 16777216) (h : LIn w lo hi A len (fun i j => mkW k (i * 4 + j))) :
    Calls Try.prog 54 #[.agg #[.slice A len cap, .float .f32 s, .float .f32 q], .int .i64 k] w fun e w' => e = .returned (.int .i64 (k + 4 * len : Nat)) ∧ Below w.heap.size w w' := by
  have hst := below_alloc1 w (.cells #[.slice A len cap, .float .f32 s, .float .f32 q] 42)
  have HA := hid (h.arg.below hst)
  have t1 : decide (((k + 4 * len : Nat) : Int) < 0) = false := decide_eq_false (by omega)
  go_enter Try.func54, Try.ntmps54
  go_wp2_with fail
  refine (heldL_any A len cap k _ hl hk (by exact HA.out)).mono ?_
  rintro e w' ⟨rfl, rfl⟩
  go_wp2
  go_ret
  exact ⟨rfl, hst⟩
end Go.Proofs.Ytmomgaiondjinaa
