/- Hardness, of the reference and of the program. No condition. -/
import Derived.Test.YtmomgaiondjinaaVali
import Derived.Test.YtmomgaiondjinaaSum
namespace Go.Proofs.Ytmomgaiondjinaa
open Go.RowKit Go.Proofs.Ytmomgaiondjinaa.Fl
theorem l00In_any (n lo hi : Int) (w : World) :
    Calls Try.prog 123 #[.int .i64 n, .int .i64 lo, .int .i64 hi] w fun e w' => e = .returned (.bool (decide (lo ≤ n) && decide (n ≤ hi))) ∧ w = w' := by
  by_cases h1 : lo ≤ n
  · go_enter Try.func123, Try.ntmps123
    go_wp2
    go_ret
    exact ⟨by simp [h1], rfl⟩
  · go_enter Try.func123, Try.ntmps123
    go_wp2
    go_ret
    exact ⟨by simp; omega, rfl⟩
/-- Is a ground valid, and a number that of a layer, or of what is below? -/
def layerB (n : Nat) (L : Nat → Nat → Nat) (s q : Nat) (k : Int) : Bool := validB n L s q && (decide (0 ≤ k) && decide (k ≤ n))
/-- .. that of a boundary? -/
def boundB (n : Nat) (L : Nat → Nat → Nat) (s q : Nat) (k : Int) : Bool := validB n L s q && (decide (0 ≤ k) && decide (k ≤ (n : Int) - 1))
theorem layerB_iff {n : Nat} {L : Nat → Nat → Nat} {s q : Nat} {k : Int} (h : layerB n L s q k = true) : ∃ j : Nat, k = (j : Int) ∧ j ≤ n ∧ validB n L s q = true := by
  unfold layerB at h; simp at h
  exact ⟨k.toNat, by omega, by omega, h.1⟩
theorem boundB_iff {n : Nat} {L : Nat → Nat → Nat} {s q : Nat} {k : Int} (h : boundB n L s q k = true) : ∃ j : Nat, k = (j : Int) ∧ j < n ∧ validB n L s q = true := by
  unfold boundB at h; simp at h
  exact ⟨k.toNat, by omega, by omega, h.1⟩
set_option maxRecDepth 100000 in
theorem specLayer_any (b : Nat) (A : Option Addr) (n c : Nat) (L : Nat → Nat → Nat) (s q : Nat) (k : Int) (w : World) (hn : n ≤ 1048576) (hG : GBox w b A n c s q) (ha : LArg w A n L) :
    Calls Try.prog 85 #[.pointer (some ⟨b, 0, none⟩), .int .i64 k] w (RetV (.bool (layerB n L s q k)) w) := by
  have HA := hid ha
  have HG := hid hG
  have HN := hid hn
  have XGa := hG.c0
  clear ha hG hn
  cases hv : validB n L s q
  · have H : Hid (layerB n L s q k = false) := by unfold Hid layerB; rw [hv]; rfl
    have HV := hid hv
    clear hv
    go_enter Try.func85, Try.ntmps85
    go_wp2_with (go_at_call 80; refine (specIs_any _ A n c L s q _ HN.out HG.out.c0 HG.out.c1 HG.out.c2 HA.out).mono ?_; rintro e w1 ⟨rfl, n1, rfl⟩; rw [HV.out])
    go_ret
    exact ⟨by rw [H.out]; rfl, _, rfl⟩
  · have H : Hid (layerB n L s q k = (decide (0 ≤ k) && decide (k ≤ n))) := by unfold Hid layerB; rw [hv]; rfl
    have HV := hid hv
    clear hv
    go_enter Try.func85, Try.ntmps85
    go_wp2_with (first | (go_at_call 80; refine (specIs_any _ A n c L s q _ HN.out HG.out.c0 HG.out.c1 HG.out.c2 HA.out).mono ?_; rintro e w1 ⟨rfl, n1, rfl⟩; rw [HV.out]) | (go_at_call 123; refine (l00In_any _ _ _ _).mono ?_; rintro e w1 ⟨rfl, rfl⟩))
    go_ret
    exact ⟨by rw [H.out]; rfl, _, rfl⟩
set_option maxRecDepth 100000 in
theorem specBound_any (b : Nat) (A : Option Addr) (n c : Nat) (L : Nat → Nat → Nat) (s q : Nat) (k : Int) (w : World) (hn : n ≤ 1048576) (hG : GBox w b A n c s q) (ha : LArg w A n L) :
    Calls Try.prog 91 #[.pointer (some ⟨b, 0, none⟩), .int .i64 k] w (RetV (.bool (boundB n L s q k)) w) := by
  have hnz : (n : Int) ≤ 1048576 := by omega
  have HA := hid ha
  have HG := hid hG
  have HN := hid hn
  have XGa := hG.c0
  clear ha hG hn
  cases hv : validB n L s q
  · have H : Hid (boundB n L s q k = false) := by unfold Hid boundB; rw [hv]; rfl
    have HV := hid hv
    clear hv
    go_enter Try.func91, Try.ntmps91
    go_wp2_with (go_at_call 80; refine (specIs_any _ A n c L s q _ HN.out HG.out.c0 HG.out.c1 HG.out.c2 HA.out).mono ?_; rintro e w1 ⟨rfl, n1, rfl⟩; rw [HV.out])
    go_ret
    exact ⟨by rw [H.out]; rfl, _, rfl⟩
  · have H : Hid (boundB n L s q k = (decide (0 ≤ k) && decide (k ≤ (n : Int) - 1))) := by unfold Hid boundB; rw [hv]; rfl
    have HV := hid hv
    clear hv
    go_enter Try.func91, Try.ntmps91
    go_wp2_with (first | (go_at_call 80; refine (specIs_any _ A n c L s q _ HN.out HG.out.c0 HG.out.c1 HG.out.c2 HA.out).mono ?_; rintro e w1 ⟨rfl, n1, rfl⟩; rw [HV.out]) | (go_at_call 123; refine (l00In_any _ _ _ _).mono ?_; rintro e w1 ⟨rfl, rfl⟩))
    go_ret
    exact ⟨by rw [H.out]; rfl, _, rfl⟩
set_option maxRecDepth 100000 in
theorem implLayer_any (A : Option Addr) (n c : Nat) (L : Nat → Nat → Nat) (s q : Nat) (k : Int) (w : World) (hn : n ≤ 1048576) (ha : LArg w A n L) (bs : s < 2 ^ 32) (bq : q < 2 ^ 32) :
    Calls Try.prog 88 #[.agg #[.slice A n c, .float .f32 s, .float .f32 q], .int .i64 k] w fun e w' => e = .returned (.bool (layerB n L s q k)) ∧ Below w.heap.size w w' := by
  have hnz : (n : Int) ≤ 1048576 := by omega
  have HA := hid ha
  have HB := hid (And.intro bs bq)
  have HN := hid hn
  have hst := below_alloc1 w (.cells #[.slice A n c, .float .f32 s, .float .f32 q] 42)
  have XG := GBox.new w 42 A n c s q
  clear ha bs bq hn
  cases hv : validB n L s q
  · have H : Hid (layerB n L s q k = false) := by unfold Hid layerB; rw [hv]; rfl
    have HV := hid hv
    clear hv
    go_enter Try.func88, Try.ntmps88
    go_wp2_with fail
    refine (implValid_any A n c L s q _ HN.out (HA.out.below hst) HB.out.1 HB.out.2).mono ?_
    rintro e w1 ⟨rfl, B1⟩
    rw [HV.out]
    go_wp2
    go_ret
    exact ⟨by rw [H.out]; rfl, below_step hst B1 rfl rfl rfl rfl⟩
  · have H : Hid (layerB n L s q k = (decide (0 ≤ k) && decide (k ≤ n))) := by unfold Hid layerB; rw [hv]; rfl
    have HV := hid hv
    clear hv
    go_enter Try.func88, Try.ntmps88
    go_wp2_with fail
    refine (implValid_any A n c L s q _ HN.out (HA.out.below hst) HB.out.1 HB.out.2).mono ?_
    rintro e w1 ⟨rfl, B1⟩
    rw [HV.out]
    have XGa := (XG.below B1).c0
    have hb := below_step hst B1 rfl rfl rfl rfl
    clear B1 hst XG
    go_wp2_with (first | (go_at_call 81; refine (lengthL_any _ _ _ _).mono ?_; rintro e w1 ⟨rfl, rfl⟩) | (go_at_call 68; refine (within_any _ _ _ _).mono ?_; rintro e w1 ⟨rfl, rfl⟩))
    go_ret
    exact ⟨by rw [H.out]; rfl, hb⟩
set_option maxRecDepth 100000 in
theorem implBound_any (A : Option Addr) (n c : Nat) (L : Nat → Nat → Nat) (s q : Nat) (k : Int) (w : World) (hn : n ≤ 1048576) (ha : LArg w A n L) (bs : s < 2 ^ 32) (bq : q < 2 ^ 32) :
    Calls Try.prog 93 #[.agg #[.slice A n c, .float .f32 s, .float .f32 q], .int .i64 k] w fun e w' => e = .returned (.bool (boundB n L s q k)) ∧ Below w.heap.size w w' := by
  have hnz : (n : Int) ≤ 1048576 := by omega
  have HA := hid ha
  have HB := hid (And.intro bs bq)
  have HN := hid hn
  have hst := below_alloc1 w (.cells #[.slice A n c, .float .f32 s, .float .f32 q] 42)
  have XG := GBox.new w 42 A n c s q
  clear ha bs bq hn
  cases hv : validB n L s q
  · have H : Hid (boundB n L s q k = false) := by unfold Hid boundB; rw [hv]; rfl
    have HV := hid hv
    clear hv
    go_enter Try.func93, Try.ntmps93
    go_wp2_with fail
    refine (implValid_any A n c L s q _ HN.out (HA.out.below hst) HB.out.1 HB.out.2).mono ?_
    rintro e w1 ⟨rfl, B1⟩
    rw [HV.out]
    go_wp2
    go_ret
    exact ⟨by rw [H.out]; rfl, below_step hst B1 rfl rfl rfl rfl⟩
  · have H : Hid (boundB n L s q k = (decide (0 ≤ k) && decide (k ≤ (n : Int) - 1))) := by unfold Hid boundB; rw [hv]; rfl
    have HV := hid hv
    clear hv
    go_enter Try.func93, Try.ntmps93
    go_wp2_with fail
    refine (implValid_any A n c L s q _ HN.out (HA.out.below hst) HB.out.1 HB.out.2).mono ?_
    rintro e w1 ⟨rfl, B1⟩
    rw [HV.out]
    have XGa := (XG.below B1).c0
    have hb := below_step hst B1 rfl rfl rfl rfl
    clear B1 hst XG
    go_wp2_with (first | (go_at_call 81; refine (lengthL_any _ _ _ _).mono ?_; rintro e w1 ⟨rfl, rfl⟩) | (go_at_call 68; refine (within_any _ _ _ _).mono ?_; rintro e w1 ⟨rfl, rfl⟩))
    go_ret
    exact ⟨by rw [H.out]; rfl, hb⟩
/-- The hardness of a layer, or of what is below. -/
def hardV (n : Nat) (L : Nat → Nat → Nat) (s q : Nat) (k : Nat) : Nat := if k = n then fop .mul .f32 q s else fop .mul .f32 (L k 2) (L k 1)
set_option maxRecDepth 100000 in
theorem specHard_any (b : Nat) (A : Option Addr) (n c : Nat) (L : Nat → Nat → Nat) (s q : Nat) (k : Nat) (w : World) (hn : n ≤ 1048576) (hk : k ≤ n) (hG : GBox w b A n c s q) (ha : LArg w A n L) :
    Calls Try.prog 87 #[.pointer (some ⟨b, 0, none⟩), .int .i64 k] w (RetF .f32 (hardV n L s q k) w) := by
  have hnz : (n : Int) ≤ 1048576 := by omega
  have XGa := hG.c0
  have XGb := hG.c1
  have XGc := hG.c2
  have HA := hid ha
  clear ha hG
  by_cases hkn : k = n
  · have H : Hid (hardV n L s q k = fop .mul .f32 q s) := by unfold Hid hardV; rw [if_pos hkn]
    subst hkn
    go_enter Try.func87, Try.ntmps87
    go_wp2_with fail
    go_region_held (fun w' => w'.cell? ⟨b, 0, none⟩ = some (.slice A k c) ∧ w'.cell? ⟨b, 1, none⟩ = some (.float .f32 s) ∧ w'.cell? ⟨b, 2, none⟩ = some (.float .f32 q)) (go_keep) ((refine upon_fop .mul rfl _ _ _ _ ?_; intro z mz hz bz))
    all_goals
      go_wp2
      go_ret
      exact ⟨z, _, rfl, by rw [H.out]; exact hz, bz, rfl⟩
  · have H : Hid (hardV n L s q k = fop .mul .f32 (L k 2) (L k 1)) := by unfold Hid hardV; rw [if_neg hkn]
    have hlt : k < n := by omega
    have hne : ((k : Int) == (n : Int)) = false := by simp; omega
    have i1 : (0 : Int) ≤ (k : Int) := by omega
    have i2 : (k : Int) < (n : Int) := by omega
    obtain ⟨ab, ao, x0, x1, x2, x3, rfl, hab, c0, c1, c2, c3, e0, e1, e2, e3, _, _, _, _⟩ := HA.out.get hlt
    have HE := hid (And.intro e1 e2)
    clear e0 e1 e2 e3 hkn
    go_enter Try.func87, Try.ntmps87
    go_wp2_with fail
    go_region_held (fun w' => w'.cell? ⟨b, 0, none⟩ = some (.slice (some ⟨ab, ao, none⟩) n c) ∧ w'.cell? ⟨ab, ao + k * 4 + 1, none⟩ = some (.float .f32 x1) ∧ w'.cell? ⟨ab, ao + k * 4 + 2, none⟩ = some (.float .f32 x2)) (go_keep) ((refine upon_fop .mul rfl _ _ _ _ ?_; intro z mz hz bz))
    all_goals
      go_wp2
      go_ret
      exact ⟨z, _, rfl, by rw [H.out, ← HE.out.1, ← HE.out.2]; exact hz, bz, rfl⟩
/-- A float; nothing that was there has turned. -/
def RetFW (k : FloatKind) (E : Nat) (w : World) (e : Ending) (w' : World) : Prop := ∃ v, e = .returned (.float k v) ∧ Hid (nz k v = E) ∧ Hid (v < 2 ^ k.format.width) ∧ Below w.heap.size w w'
set_option maxRecDepth 100000 in
theorem implHard_any (A : Option Addr) (n c : Nat) (L : Nat → Nat → Nat) (s q : Nat) (k : Nat) (w : World) (hn : n ≤ 1048576) (hk : k ≤ n) (ha : LArg w A n L) :
    Calls Try.prog 90 #[.agg #[.slice A n c, .float .f32 s, .float .f32 q], .int .i64 k] w (RetFW .f32 (hardV n L s q k) w) := by
  have hnz : (n : Int) ≤ 1048576 := by omega
  have HA := hid ha
  clear ha
  by_cases hkn : k = n
  · have H : Hid (hardV n L s q k = fop .mul .f32 q s) := by unfold Hid hardV; rw [if_pos hkn]
    subst hkn
    go_enter Try.func90, Try.ntmps90
    go_wp2_with (first | (go_at_call 81; refine (lengthL_any _ _ _ _).mono ?_; rintro e w1 ⟨rfl, rfl⟩) | (refine wpList_fop _ rfl .mul _ _ _ _ rfl rfl _ _ _ rfl rfl ?_; intro z mz hz bz))
    go_ret
    exact ⟨z, rfl, by rw [H.out]; exact hz, bz, below_alloc w _ _⟩
  · have H : Hid (hardV n L s q k = fop .mul .f32 (L k 2) (L k 1)) := by unfold Hid hardV; rw [if_neg hkn]
    have hlt : k < n := by omega
    have i1 : (0 : Int) ≤ (k : Int) := by omega
    have i2 : (k : Int) < (n : Int) := by omega
    have hst := below_alloc1 w (.cells #[.slice A n c, .float .f32 s, .float .f32 q] 42)
    obtain ⟨ab, ao, x0, x1, x2, x3, rfl, hab, c0, c1, c2, c3, e0, e1, e2, e3, _, _, _, _⟩ := HA.out.get hlt
    have HE := hid (And.intro e1 e2)
    clear e0 e1 e2 e3 hkn
    go_enter Try.func90, Try.ntmps90
    go_wp2_with (go_at_call 81; refine (lengthL_any _ _ _ _).mono ?_; rintro e w1 ⟨rfl, rfl⟩)
    have d1 := (hst.cell (p := ⟨ab, ao + k * 4 + 1, none⟩) hab).trans c1
    have d2 := (hst.cell (p := ⟨ab, ao + k * 4 + 2, none⟩) hab).trans c2
    go_region_held (fun w' => w'.cell? ⟨w.heap.size, 0, none⟩ = some (.slice (some ⟨ab, ao, none⟩) n c) ∧ w'.cell? ⟨ab, ao + k * 4 + 1, none⟩ = some (.float .f32 x1) ∧ w'.cell? ⟨ab, ao + k * 4 + 2, none⟩ = some (.float .f32 x2)) (first | go_keep | simp [*]) ((refine upon_fop .mul rfl _ _ _ _ ?_; intro z mz hz bz))
    all_goals
      go_wp2
      go_ret
      exact ⟨z, rfl, by rw [H.out, ← HE.out.1, ← HE.out.2]; exact hz, bz, below_drewN hst _⟩
end Go.Proofs.Ytmomgaiondjinaa
