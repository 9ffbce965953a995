/- Lists, if all of their numbers are finite; DepthsOf and TimesDown of the reference and of the program. No condition. -/
import Derived.Test.YtmomgaiondjinaaLay
namespace Go.Proofs.Ytmomgaiondjinaa
open Go.RowKit Go.Proofs.Ytmomgaiondjinaa.Fl
def allFin (n : Nat) (E : Nat → Nat) : Bool := (List.range n).all fun i => finB .f32 (E i)
theorem allFin_of {n : Nat} {E : Nat → Nat} (h : ∀ j, j < n → finB .f32 (E j) = true) : allFin n E = true := by
  unfold allFin; rw [List.all_eq_true]; intro x hx; exact h x (List.mem_range.1 hx)
theorem allFin_no {n k : Nat} {E : Nat → Nat} (hk : k < n) (h : finB .f32 (E k) = false) : allFin n E = false := by
  unfold allFin; rw [List.all_eq_false]; exact ⟨k, List.mem_range.2 hk, by rw [h]; decide⟩
theorem allFin_at {n k : Nat} {E : Nat → Nat} (h : allFin n E = true) (hk : k < n) : finB .f32 (E k) = true := by
  unfold allFin at h; rw [List.all_eq_true] at h; exact h k (List.mem_range.2 hk)
theorem allFin_step {k : Nat} {E : Nat → Nat} (h : ∀ j, j < k → finB .f32 (E j) = true) (hk : finB .f32 (E k) = true) : ∀ j, j < k + 1 → finB .f32 (E j) = true := fun j hj => by
  by_cases e : j = k
  · rw [e]; exact hk
  · exact h j (by omega)
theorem fin_E {x E : Nat} (h : nz .f32 x = E) : finB .f32 x = finB .f32 E := by rw [← h, fin_nz]
/-- How long a list is, if it is handed back. -/
def lstN (n : Nat) (b : Bool) : Nat := if b then n else 0
theorem lstN_le (n : Nat) (b : Bool) : lstN n b ≤ n := by unfold lstN; split <;> omega
theorem FOwnE.mono {w : World} {lo lo' : Nat} {A : Option Addr} {n : Nat} {E : Nat → Nat} (h : FOwnE w lo A n E) (hl : lo' ≤ lo) : FOwnE w lo' A n E := by
  obtain ⟨X, h1, h2⟩ := h; exact ⟨X, h1.mono hl, h2⟩
theorem FOwnE.drewN {w : World} {lo : Nat} {A : Option Addr} {n : Nat} {E : Nat → Nat} (h : FOwnE w lo A n E) (m : Nat) : FOwnE (w.drewN m) lo A n E := by
  obtain ⟨X, h1, h2⟩ := h; exact ⟨X, h1.drewN m, h2⟩
theorem FOwnE.none (w : World) (lo : Nat) (E : Nat → Nat) : FOwnE w lo none 0 E := ⟨fun _ => 0, fun h => absurd h (Nat.lt_irrefl _), fun _ h => absurd h (Nat.not_lt_zero _)⟩
/-- A list, or none; nothing but draws. -/
def LstR (n : Nat) (E : Nat → Nat) (b : Bool) (lo : Nat) (w : World) (e : Ending) (w' : World) : Prop := ∃ A c m, e = .returned (.tuple #[.slice A (lstN n b) c, .bool b]) ∧ Hid (FOwnE w lo A (lstN n b) E) ∧ w' = w.drewN m
set_option maxRecDepth 100000 in
theorem specList_any (A : Option Addr) (n c lo : Nat) (E : Nat → Nat) (w : World) (hn : n ≤ 1048576) (ha : FOwnE w lo A n E) :
    Calls Try.prog 100 #[.slice A n c] w (LstR n E (allFin n E) lo w) := by
  have hnz : (n : Int) ≤ 1048576 := by omega
  have HF := hid ha
  clear ha
  go_enter Try.func100, Try.ntmps100
  go_wp2
  go_loopw [4] (fun i wr => ∃ k m : Nat, k ≤ n ∧ i = .int .i64 k ∧ Hid (∀ j, j < k → finB .f32 (E j) = true) ∧ wr = w.drewN m) (fun i _ => n - (intOf i).toNat)
  case atStart => exact ⟨0, 0, Nat.zero_le _, rfl, fun j hj => absurd hj (Nat.not_lt_zero _), rfl⟩
  case round =>
    obtain ⟨k, m, hk, rfl, hall, rfl⟩ := hrel
    by_cases hlt : k < n
    · obtain ⟨a, x, rfl, c1, hx, bx⟩ := HF.out.at hlt
      have e1 := fin_E hx
      clear hx bx
      cases hf : finB .f32 x
      · have HT := hid (allFin_no hlt (e1.symm.trans hf))
        have HX := hid hf
        clear hf e1
        go_wp2_with (go_at_call 66; refine (specFinite_any _ _).mono ?_; rintro e w1 ⟨rfl, n1, rfl⟩; rw [HX.out])
        go_ret2
        exact ⟨none, 0, _, by rw [HT.out]; rfl, by rw [HT.out]; exact FOwnE.none _ _ _, rfl⟩
      · have HT := hid (allFin_step hall.out (e1.symm.trans hf))
        have HX := hid hf
        clear hf e1
        go_wp2_with (go_at_call 66; refine (specFinite_any _ _).mono ?_; rintro e w1 ⟨rfl, n1, rfl⟩; rw [HX.out])
        go_roundw
        case rel => exact ⟨k + 1, _, by omega, by go_num, HT, rfl⟩
        case measure => simp [intOf]; omega
    · obtain rfl : k = n := by omega
      have HT := hid (allFin_of hall.out)
      go_wp2
      go_ret2
      exact ⟨A, c, m, by rw [HT.out]; rfl, by rw [HT.out]; exact HF.out, rfl⟩
theorem finiteList_no (A : Option Addr) (n c : Nat) (w : World) :
    Calls Try.prog 72 #[.slice A n c, .bool false] w fun e w' => e = .returned (.tuple #[.slice none 0 0, .bool false]) ∧ w = w' := by
  go_enter Try.func72, Try.ntmps72
  go_wp2
  go_ret2
  exact ⟨rfl, rfl⟩
theorem fcells_own {w : World} {g n : Nat} {X : Nat → Nat} (h : Row w g n X) : FCells w g 0 ((List.range n).map X) := fun j hj => by
  have hj' : j < n := by simpa using hj
  have e : ((List.range n).map X).getD j 0 = X j := by simp [List.getD_eq_getElem?_getD, hj']
  rw [e]
  exact ⟨by rw [Nat.zero_add]; exact h.cell j hj', h.bd j hj'⟩
theorem all_own {n : Nat} {X E : Nat → Nat} (h : ∀ i, i < n → nz .f32 (X i) = E i) : ((List.range n).map X).all (finB .f32) = allFin n E := by
  unfold allFin
  rw [List.all_map]
  rw [Bool.eq_iff_iff, List.all_eq_true, List.all_eq_true]
  constructor <;> intro hh x hx <;> have := hh x hx <;> have e := fin_E (h x (List.mem_range.1 hx)) <;> simp_all
theorem areFinite_own (A : Option Addr) (n c lo : Nat) (E : Nat → Nat) (w : World) (h1 : 1 ≤ n) (hn : n ≤ 1048576) (ha : FOwnE w lo A n E) :
    Calls Try.prog 115 #[.slice A n c] w (RetV (.bool (allFin n E)) w) := by
  obtain ⟨X, hX, hE⟩ := ha
  obtain ⟨g, rfl, _, _, hr⟩ := hX h1
  have hlen : ((List.range n).map X).length = n := by simp
  have h := areFinite_any g 0 c ((List.range n).map X) w (by rw [hlen]; unfold maxLen; omega) (fcells_own hr)
  rw [hlen, all_own hE] at h
  exact h
theorem finiteList_yes (A : Option Addr) (n c lo : Nat) (E : Nat → Nat) (w : World) (h1 : 1 ≤ n) (hn : n ≤ 1048576) (ha : FOwnE w lo A n E) :
    Calls Try.prog 72 #[.slice A n c, .bool true] w (LstR n E (allFin n E) lo w) := by
  have HF := hid ha
  have H1 := hid h1
  have HN := hid hn
  clear ha h1 hn
  cases hf : allFin n E
  all_goals
    have HX := hid hf
    clear hf
    go_enter Try.func72, Try.ntmps72
    go_wp2_with (go_at_call 115; refine (areFinite_own _ _ _ _ _ _ H1.out HN.out HF.out).mono ?_; rintro e w1 ⟨rfl, n1, rfl⟩; rw [HX.out])
    go_ret2
  · exact ⟨none, 0, _, rfl, FOwnE.none _ _ _, rfl⟩
  · exact ⟨A, c, _, rfl, HF.out, rfl⟩
/-- A list of its own, or none. -/
def RetLB (m : Nat) (E : Nat → Nat) (b : Bool) (w : World) (e : Ending) (w' : World) : Prop := ∃ A cap, e = .returned (.tuple #[.slice A m cap, .bool b]) ∧ Hid (FOwnE w' w.heap.size A m E) ∧ Below w.heap.size w w'
theorem RetLB.of_none {n : Nat} {E : Nat → Nat} {w w' : World} {e : Ending} (he : e = .returned (.tuple #[.slice none 0 0, .bool false])) (hb : Below w.heap.size w w') : RetLB (lstN n false) E false w e w' := ⟨none, 0, he, FOwnE.none _ _ _, hb⟩
def timE (L : Nat → Nat → Nat) (i : Nat) : Nat := timV L (i + 1)
/-- Is a ground valid, and are all numbers of a list finite? -/
def lsOk (n : Nat) (L : Nat → Nat → Nat) (s q : Nat) (E : Nat → Nat) : Bool := validB n L s q && allFin n E
theorem lsOk_no {n : Nat} {L : Nat → Nat → Nat} {s q : Nat} {E : Nat → Nat} (h : validB n L s q = false) : lsOk n L s q E = false := by unfold lsOk; rw [h]; rfl
theorem lsOk_yes {n : Nat} {L : Nat → Nat → Nat} {s q : Nat} {E : Nat → Nat} (h : validB n L s q = true) : lsOk n L s q E = allFin n E := by unfold lsOk; rw [h]; rfl

set_option maxRecDepth 100000 in
theorem specDepthsOf_any (A : Option Addr) (n c : Nat) (L : Nat → Nat → Nat) (s q : Nat) (w : World) (hn : n ≤ 1048576) (ha : LArg w A n L) :
    Calls Try.prog 47 #[.agg #[.slice A n c, .float .f32 s, .float .f32 q]] w (RetLB (lstN n (lsOk n L s q (depE L))) (depE L) (lsOk n L s q (depE L)) w) := by
  have hbl := below_alloc1 w (.cells #[.slice A n c, .float .f32 s, .float .f32 q] 42)
  have HG := hid (GBox.new w 42 A n c s q)
  have HL := hid (ha.below hbl)
  have HN := hid hn
  clear ha hn
  cases hc : validB n L s q
  · have HC := hid hc
    rw [lsOk_no hc]
    clear hc
    go_enter Try.func47, Try.ntmps47
    go_wp2_with (go_at_call 80; refine (specIs_any _ A n c L s q _ HN.out HG.out.c0 HG.out.c1 HG.out.c2 HL.out).mono ?_; rintro e w1 ⟨rfl, n1, rfl⟩; rw [HC.out])
    go_ret2
    exact RetLB.of_none rfl (below_drewN hbl _)
  · have HC := hid hc
    rw [lsOk_yes hc]
    clear hc
    go_enter Try.func47, Try.ntmps47
    go_wp2_with (go_at_call 80; refine (specIs_any _ A n c L s q _ HN.out HG.out.c0 HG.out.c1 HG.out.c2 HL.out).mono ?_; rintro e w1 ⟨rfl, n1, rfl⟩; rw [HC.out])
    refine (specDepths_any _ A n c L s q _ HN.out (by exact ⟨HG.out.c0, HG.out.c1, HG.out.c2, HG.out.lt⟩) (by exact HL.out)).mono ?_
    rintro e w1 ⟨B, cap, rfl, HF, B1⟩
    have hb := below_step hbl B1 rfl rfl rfl rfl
    have HF := hid (HF.out.mono hbl.size)
    clear B1 hbl
    go_wp2_with fail
    refine (specList_any B n cap _ (depE L) _ HN.out HF.out).mono ?_
    rintro e w2 ⟨B2, cap2, m2, rfl, HF2, rfl⟩
    go_wp2
    go_ret2
    exact ⟨B2, cap2, rfl, HF2.out.drewN _, below_drewN hb _⟩
set_option maxHeartbeats 1000000 in
set_option maxRecDepth 100000 in
theorem implDepthsOf_any (A : Option Addr) (n c : Nat) (L : Nat → Nat → Nat) (s q : Nat) (w : World) (hn : n ≤ 1048576) (ha : LArg w A n L) (bs : s < 2 ^ 32) (bq : q < 2 ^ 32) :
    Calls Try.prog 48 #[.agg #[.slice A n c, .float .f32 s, .float .f32 q]] w (RetLB (lstN n (lsOk n L s q (depE L))) (depE L) (lsOk n L s q (depE L)) w) := by
  have hbl := below_alloc1 w (.cells #[.slice A n c, .float .f32 s, .float .f32 q] 42)
  have XG := GBox.new w 42 A n c s q
  have HL := hid (ha.below hbl)
  have HN := hid hn
  have HB := hid (And.intro bs bq)
  clear ha hn bs bq
  obtain ⟨p0, p1, p2, p3⟩ := id XG
  cases hc : validB n L s q
  · have HC := hid hc
    rw [lsOk_no hc]
    clear hc
    go_enter Try.func48, Try.ntmps48
    go_wp2_with fail
    go_region_held (fun w' => w'.cell? ⟨w.heap.size, 0, none⟩ = some (.slice A n c) ∧ w'.cell? ⟨w.heap.size, 1, none⟩ = some (.float .f32 s) ∧ w'.cell? ⟨w.heap.size, 2, none⟩ = some (.float .f32 q)) ((refine ⟨?_, ?_, ?_⟩ <;> first | assumption | exact (Below.cell (by assumption) (by assumption)).trans (by assumption))) (first | (go_at_call 95; refine (implDepths_any A n c L s q _ HN.out (by exact HL.out)).mono ?_; rintro e wd ⟨B, cap, rfl, HF, Bd⟩; have HF := hid (HF.out.mono (by exact hbl.size)); have XGr := XG.below (below_self Bd rfl rfl rfl rfl); obtain ⟨r0, r1, r2, r3⟩ := id XGr) | (go_at_call 36; refine (implValid_any A n c L s q _ HN.out (by exact HL.out.below (below_self Bd rfl rfl rfl rfl)) HB.out.1 HB.out.2).mono ?_; rintro e wv ⟨rfl, Bv⟩; rw [HC.out]; have HF2 := hid (HF.out.below (below_self Bv rfl rfl rfl rfl)); have XGr := XGr.below (below_self Bv rfl rfl rfl rfl); obtain ⟨u0, u1, u2, u3⟩ := id XGr) | (go_at_call 72; refine (finiteList_no _ _ _ _).mono ?_; rintro e w2 ⟨rfl, rfl⟩))
    all_goals
      have hb := below_step (below_step hbl Bd rfl rfl rfl rfl) Bv rfl rfl rfl rfl
      clear XG Bd Bv p0 p1 p2 p3 r0 r1 r2 r3 u0 u1 u2 u3 XGr hbl
      go_wp2
      go_ret2
      exact RetLB.of_none rfl (by first | exact hb | exact below_drewN hb _)
  · have HC := hid hc
    rw [lsOk_yes hc]
    have H1 := hid (validB_iff hc).1
    clear hc
    go_enter Try.func48, Try.ntmps48
    go_wp2_with fail
    go_region_held (fun w' => w'.cell? ⟨w.heap.size, 0, none⟩ = some (.slice A n c) ∧ w'.cell? ⟨w.heap.size, 1, none⟩ = some (.float .f32 s) ∧ w'.cell? ⟨w.heap.size, 2, none⟩ = some (.float .f32 q)) ((refine ⟨?_, ?_, ?_⟩ <;> first | assumption | exact (Below.cell (by assumption) (by assumption)).trans (by assumption))) (first | (go_at_call 95; refine (implDepths_any A n c L s q _ HN.out (by exact HL.out)).mono ?_; rintro e wd ⟨B, cap, rfl, HF, Bd⟩; have HF := hid (HF.out.mono (by exact hbl.size)); have XGr := XG.below (below_self Bd rfl rfl rfl rfl); obtain ⟨r0, r1, r2, r3⟩ := id XGr) | (go_at_call 36; refine (implValid_any A n c L s q _ HN.out (by exact HL.out.below (below_self Bd rfl rfl rfl rfl)) HB.out.1 HB.out.2).mono ?_; rintro e wv ⟨rfl, Bv⟩; rw [HC.out]; have HF2 := hid (HF.out.below (below_self Bv rfl rfl rfl rfl)); have XGr := XGr.below (below_self Bv rfl rfl rfl rfl); obtain ⟨u0, u1, u2, u3⟩ := id XGr) | (go_at_call 72; refine (finiteList_yes _ _ _ _ (depE L) _ H1.out HN.out HF2.out).mono ?_; rintro e w2 ⟨B2, cap2, m2, rfl, HF3, rfl⟩))
    all_goals
      have hb := below_step (below_step hbl Bd rfl rfl rfl rfl) Bv rfl rfl rfl rfl
      clear XG Bd Bv p0 p1 p2 p3 r0 r1 r2 r3 u0 u1 u2 u3 XGr hbl
      go_wp2
      go_ret2
      exact ⟨B2, cap2, rfl, HF3.out.drewN _, below_drewN hb _⟩
set_option maxRecDepth 100000 in
theorem specTimesDown_any (A : Option Addr) (n c : Nat) (L : Nat → Nat → Nat) (s q : Nat) (w : World) (hn : n ≤ 1048576) (ha : LArg w A n L) :
    Calls Try.prog 50 #[.agg #[.slice A n c, .float .f32 s, .float .f32 q]] w (RetLB (lstN n (lsOk n L s q (timE L))) (timE L) (lsOk n L s q (timE L)) w) := by
  have hbl := below_alloc1 w (.cells #[.slice A n c, .float .f32 s, .float .f32 q] 42)
  have HG := hid (GBox.new w 42 A n c s q)
  have HL := hid (ha.below hbl)
  have HN := hid hn
  clear ha hn
  cases hc : validB n L s q
  · have HC := hid hc
    rw [lsOk_no hc]
    clear hc
    go_enter Try.func50, Try.ntmps50
    go_wp2_with (go_at_call 80; refine (specIs_any _ A n c L s q _ HN.out HG.out.c0 HG.out.c1 HG.out.c2 HL.out).mono ?_; rintro e w1 ⟨rfl, n1, rfl⟩; rw [HC.out])
    go_ret2
    exact RetLB.of_none rfl (below_drewN hbl _)
  · have HC := hid hc
    rw [lsOk_yes hc]
    clear hc
    go_enter Try.func50, Try.ntmps50
    go_wp2_with (go_at_call 80; refine (specIs_any _ A n c L s q _ HN.out HG.out.c0 HG.out.c1 HG.out.c2 HL.out).mono ?_; rintro e w1 ⟨rfl, n1, rfl⟩; rw [HC.out])
    refine (specTimes_any _ A n c L s q _ HN.out (by exact ⟨HG.out.c0, HG.out.c1, HG.out.c2, HG.out.lt⟩) (by exact HL.out)).mono ?_
    rintro e w1 ⟨B, cap, rfl, HF, B1⟩
    have hb := below_step hbl B1 rfl rfl rfl rfl
    have HF := hid (HF.out.mono hbl.size)
    clear B1 hbl
    go_wp2_with fail
    refine (specList_any B n cap _ (timE L) _ HN.out HF.out).mono ?_
    rintro e w2 ⟨B2, cap2, m2, rfl, HF2, rfl⟩
    go_wp2
    go_ret2
    exact ⟨B2, cap2, rfl, HF2.out.drewN _, below_drewN hb _⟩
set_option maxHeartbeats 1000000 in
set_option maxRecDepth 100000 in
theorem implTimesDown_any (A : Option Addr) (n c : Nat) (L : Nat → Nat → Nat) (s q : Nat) (w : World) (hn : n ≤ 1048576) (ha : LArg w A n L) (bs : s < 2 ^ 32) (bq : q < 2 ^ 32) :
    Calls Try.prog 51 #[.agg #[.slice A n c, .float .f32 s, .float .f32 q]] w (RetLB (lstN n (lsOk n L s q (timE L))) (timE L) (lsOk n L s q (timE L)) w) := by
  have hbl := below_alloc1 w (.cells #[.slice A n c, .float .f32 s, .float .f32 q] 42)
  have XG := GBox.new w 42 A n c s q
  have HL := hid (ha.below hbl)
  have HN := hid hn
  have HB := hid (And.intro bs bq)
  clear ha hn bs bq
  obtain ⟨p0, p1, p2, p3⟩ := id XG
  cases hc : validB n L s q
  · have HC := hid hc
    rw [lsOk_no hc]
    clear hc
    go_enter Try.func51, Try.ntmps51
    go_wp2_with fail
    go_region_held (fun w' => w'.cell? ⟨w.heap.size, 0, none⟩ = some (.slice A n c) ∧ w'.cell? ⟨w.heap.size, 1, none⟩ = some (.float .f32 s) ∧ w'.cell? ⟨w.heap.size, 2, none⟩ = some (.float .f32 q)) ((refine ⟨?_, ?_, ?_⟩ <;> first | assumption | exact (Below.cell (by assumption) (by assumption)).trans (by assumption))) (first | (go_at_call 104; refine (implTimes_any A n c L s q _ HN.out (by exact HL.out)).mono ?_; rintro e wd ⟨B, cap, rfl, HF, Bd⟩; have HF := hid (HF.out.mono (by exact hbl.size)); have XGr := XG.below (below_self Bd rfl rfl rfl rfl); obtain ⟨r0, r1, r2, r3⟩ := id XGr) | (go_at_call 36; refine (implValid_any A n c L s q _ HN.out (by exact HL.out.below (below_self Bd rfl rfl rfl rfl)) HB.out.1 HB.out.2).mono ?_; rintro e wv ⟨rfl, Bv⟩; rw [HC.out]; have HF2 := hid (HF.out.below (below_self Bv rfl rfl rfl rfl)); have XGr := XGr.below (below_self Bv rfl rfl rfl rfl); obtain ⟨u0, u1, u2, u3⟩ := id XGr) | (go_at_call 72; refine (finiteList_no _ _ _ _).mono ?_; rintro e w2 ⟨rfl, rfl⟩))
    all_goals
      have hb := below_step (below_step hbl Bd rfl rfl rfl rfl) Bv rfl rfl rfl rfl
      clear XG Bd Bv p0 p1 p2 p3 r0 r1 r2 r3 u0 u1 u2 u3 XGr hbl
      go_wp2
      go_ret2
      exact RetLB.of_none rfl (by first | exact hb | exact below_drewN hb _)
  · have HC := hid hc
    rw [lsOk_yes hc]
    have H1 := hid (validB_iff hc).1
    clear hc
    go_enter Try.func51, Try.ntmps51
    go_wp2_with fail
    go_region_held (fun w' => w'.cell? ⟨w.heap.size, 0, none⟩ = some (.slice A n c) ∧ w'.cell? ⟨w.heap.size, 1, none⟩ = some (.float .f32 s) ∧ w'.cell? ⟨w.heap.size, 2, none⟩ = some (.float .f32 q)) ((refine ⟨?_, ?_, ?_⟩ <;> first | assumption | exact (Below.cell (by assumption) (by assumption)).trans (by assumption))) (first | (go_at_call 104; refine (implTimes_any A n c L s q _ HN.out (by exact HL.out)).mono ?_; rintro e wd ⟨B, cap, rfl, HF, Bd⟩; have HF := hid (HF.out.mono (by exact hbl.size)); have XGr := XG.below (below_self Bd rfl rfl rfl rfl); obtain ⟨r0, r1, r2, r3⟩ := id XGr) | (go_at_call 36; refine (implValid_any A n c L s q _ HN.out (by exact HL.out.below (below_self Bd rfl rfl rfl rfl)) HB.out.1 HB.out.2).mono ?_; rintro e wv ⟨rfl, Bv⟩; rw [HC.out]; have HF2 := hid (HF.out.below (below_self Bv rfl rfl rfl rfl)); have XGr := XGr.below (below_self Bv rfl rfl rfl rfl); obtain ⟨u0, u1, u2, u3⟩ := id XGr) | (go_at_call 72; refine (finiteList_yes _ _ _ _ (timE L) _ H1.out HN.out HF2.out).mono ?_; rintro e w2 ⟨B2, cap2, m2, rfl, HF3, rfl⟩))
    all_goals
      have hb := below_step (below_step hbl Bd rfl rfl rfl rfl) Bv rfl rfl rfl rfl
      clear XG Bd Bv p0 p1 p2 p3 r0 r1 r2 r3 u0 u1 u2 u3 XGr hbl
      go_wp2
      go_ret2
      exact ⟨B2, cap2, rfl, HF3.out.drewN _, below_drewN hb _⟩
end Go.Proofs.Ytmomgaiondjinaa
