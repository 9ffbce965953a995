/- Grounds: their size, their copies, what compares them. No condition. -/
import Derived.Test.YtmomgaiondjinaaList
import Derived.Deep.RegionWith
namespace Go.Proofs.Ytmomgaiondjinaa
open Go.RowKit Go.Proofs.Ytmomgaiondjinaa.Fl

theorem szGround_yes (A : Option Addr) (len cap s q left : Nat) (w : World) (hl : len ≤ left) (h63 : left ≤ 1048576) :
    Calls Try.prog 30 #[.agg #[.slice A len cap, .float .f32 s, .float .f32 q], .int .i64 left] w fun e w' => e = .returned (.int .i64 (left - len : Nat)) ∧ Below w.heap.size w w' := by
  have h1 : (len : Int) ≤ (left : Int) := by omega
  have h2 : (left : Int) ≤ 1048576 := by omega
  have h3 : ¬ (left : Int) - (len : Int) < 0 := by omega
  go_enter Try.func30, Try.ntmps30
  go_wp2_with go_in
  go_ret
  exact ⟨congrArg (fun n => Ending.returned (Value.int .i64 n)) (by omega), (Below.refl _ _).alloc (Nat.le_refl _) _⟩
theorem szGround_no (A : Option Addr) (len cap s q left : Nat) (w : World) (hm : len ≤ maxLen) (hl : ¬ len ≤ left) :
    Calls Try.prog 30 #[.agg #[.slice A len cap, .float .f32 s, .float .f32 q], .int .i64 left] w fun e w' => e = .returned (.int .i64 (-1)) ∧ Below w.heap.size w w' := by
  unfold maxLen at hm
  have h1 : (left : Int) < (len : Int) := by omega
  have h2 : (len : Int) ≤ 9223372036854775807 := by omega
  have h3 : (left : Int) - (len : Int) < 0 := by omega
  go_enter Try.func30, Try.ntmps30
  go_wp2_with go_in
  go_ret
  exact ⟨rfl, (Below.refl _ _).alloc (Nat.le_refl _) _⟩
theorem info4 : (Try.prog.info? 70).map (fun i => (i.zero, i.size, i.bytes)) = some (some (.agg #[.float .f32 0, .float .f32 0, .float .f32 0, .float .f32 0]), 4, 16) := by kernel_rfl
theorem toLayer_any (x0 x1 x2 x3 : Nat) (w : World) :
    Calls Try.prog 117 #[.agg #[.float .f32 x0, .float .f32 x1, .float .f32 x2, .float .f32 x3]] w fun e w' => e = .returned (.agg #[.float .f32 x0, .float .f32 x1, .float .f32 x2, .float .f32 x3]) ∧ Below w.heap.size w w' := by
  go_enter Try.func117, Try.ntmps117
  go_wp2
  exact bodyPost_ret (v := .agg #[.float .f32 x0, .float .f32 x1, .float .f32 x2, .float .f32 x3]) (by simp [results, Try.results117, go_sem]) rfl ⟨rfl, (((Below.refl _ _).alloc (Nat.le_refl _) _).alloc (by simp) _).alloc (by simp; omega) _⟩
/-- A row of layers, filled up to k. -/
structure FillL (w wr : World) (g len k : Nat) (L : Nat → Nat → Nat) : Prop where
  there : ∀ i, i < len * 4 → ∃ u, wr.cell? ⟨g, i, none⟩ = some u
  vals : ∀ i j, i < k → j < 4 → wr.cell? ⟨g, i * 4 + j, none⟩ = some (.float .f32 (L i j))
  frz : ∀ j, wr.frozen? ⟨g, j, none⟩ = false
  low : Below g w wr
  big : g < wr.heap.size
theorem cell_set4 (wr : World) (g o : Nat) (v0 v1 v2 v3 : Value) (h : ∀ j, j < 4 → ∃ u, wr.cell? ⟨g, o + j, none⟩ = some u) (i : Nat) :
    ((((wr.setCell ⟨g, o, none⟩ v0).setCell ⟨g, o + 1, none⟩ v1).setCell ⟨g, o + 2, none⟩ v2).setCell ⟨g, o + 3, none⟩ v3).cell? ⟨g, i, none⟩ = if i = o then some v0 else if i = o + 1 then some v1 else if i = o + 2 then some v2 else if i = o + 3 then some v3 else wr.cell? ⟨g, i, none⟩ := by
  have ne : ∀ a b : Nat, a ≠ b → (⟨g, a, none⟩ : Addr) ≠ ⟨g, b, none⟩ := fun a b h e => h (by injection e)
  obtain ⟨u0, h0⟩ := h 0 (by omega)
  obtain ⟨u1, h1⟩ := h 1 (by omega)
  obtain ⟨u2, h2⟩ := h 2 (by omega)
  obtain ⟨u3, h3⟩ := h 3 (by omega)
  rw [Nat.add_zero] at h0
  by_cases e3 : i = o + 3
  · subst e3
    rw [if_neg (by omega), if_neg (by omega), if_neg (by omega), if_pos rfl]
    refine World.cell?_setCell_same _ _ _ (u := u3) ?_
    rw [World.cell?_setCell_other _ _ _ _ (ne _ _ (by omega)), World.cell?_setCell_other _ _ _ _ (ne _ _ (by omega)), World.cell?_setCell_other _ _ _ _ (ne _ _ (by omega))]
    exact h3
  · rw [World.cell?_setCell_other _ _ _ _ (ne _ _ (fun h => e3 h.symm))]
    by_cases e2 : i = o + 2
    · subst e2
      rw [if_neg (by omega), if_neg (by omega), if_pos rfl]
      refine World.cell?_setCell_same _ _ _ (u := u2) ?_
      rw [World.cell?_setCell_other _ _ _ _ (ne _ _ (by omega)), World.cell?_setCell_other _ _ _ _ (ne _ _ (by omega))]
      exact h2
    · rw [World.cell?_setCell_other _ _ _ _ (ne _ _ (fun h => e2 h.symm))]
      by_cases e1 : i = o + 1
      · subst e1
        rw [if_neg (by omega), if_pos rfl]
        refine World.cell?_setCell_same _ _ _ (u := u1) ?_
        rw [World.cell?_setCell_other _ _ _ _ (ne _ _ (by omega))]
        exact h1
      · rw [World.cell?_setCell_other _ _ _ _ (ne _ _ (fun h => e1 h.symm))]
        by_cases e0 : i = o
        · subst e0
          rw [if_pos rfl]
          exact World.cell?_setCell_same _ _ _ h0
        · rw [World.cell?_setCell_other _ _ _ _ (ne _ _ (fun h => e0 h.symm)), if_neg e0, if_neg e1, if_neg e2, if_neg e3]
theorem FillL.step {w wr : World} {g len k : Nat} {L : Nat → Nat → Nat} (h : FillL w wr g len k L) (hk : k < len) :
    FillL w ((((wr.setCell ⟨g, k * 4, none⟩ (.float .f32 (L k 0))).setCell ⟨g, k * 4 + 1, none⟩ (.float .f32 (L k 1))).setCell ⟨g, k * 4 + 2, none⟩ (.float .f32 (L k 2))).setCell ⟨g, k * 4 + 3, none⟩ (.float .f32 (L k 3))) g len (k + 1) L := by
  have hth : ∀ j, j < 4 → ∃ u, wr.cell? ⟨g, k * 4 + j, none⟩ = some u := fun j hj => h.there _ (by omega)
  refine ⟨fun i hi => ?_, fun i j hi hj => ?_, fun j => by simp only [World.frozen?_setCell]; exact h.frz j, (((h.low.setCell (Nat.le_refl _) _).setCell (Nat.le_refl _) _).setCell (Nat.le_refl _) _).setCell (Nat.le_refl _) _, by simp [World.setCell]; exact h.big⟩
  · rw [cell_set4 wr g (k * 4) _ _ _ _ hth]
    split
    · exact ⟨_, rfl⟩
    · split
      · exact ⟨_, rfl⟩
      · split
        · exact ⟨_, rfl⟩
        · split
          · exact ⟨_, rfl⟩
          · exact h.there i hi
  · rw [cell_set4 wr g (k * 4) _ _ _ _ hth]
    by_cases e : i = k
    · subst e
      have hj' : j = 0 ∨ j = 1 ∨ j = 2 ∨ j = 3 := by omega
      rcases hj' with rfl | rfl | rfl | rfl
      · rw [if_pos (by omega)]
      · rw [if_neg (by omega), if_pos (by omega)]
      · rw [if_neg (by omega), if_neg (by omega), if_pos (by omega)]
      · rw [if_neg (by omega), if_neg (by omega), if_neg (by omega), if_pos (by omega)]
    · rw [if_neg (by omega), if_neg (by omega), if_neg (by omega), if_neg (by omega)]
      exact h.vals i j (by omega) hj
theorem FillL.later {w wr wr' : World} {g len k : Nat} {L : Nat → Nat → Nat} (h : FillL w wr g len k L) (hb : Below wr.heap.size wr wr') : FillL w wr' g len k L := by
  have hbl := hb.block g h.big
  exact ⟨fun i hi => by obtain ⟨u, hu⟩ := h.there i hi; exact ⟨u, (World.cell?_of_block (a := ⟨g, i, none⟩) hbl).trans hu⟩, fun i j hi hj => (World.cell?_of_block (a := ⟨g, i * 4 + j, none⟩) hbl).trans (h.vals i j hi hj), fun j => by rw [← h.frz j]; simp only [World.frozen?, hbl], h.low.trans (hb.mono (Nat.le_of_lt h.big)), Nat.lt_of_lt_of_le h.big hb.size⟩
theorem FillL.start {w w1 : World} {e : TypeId} {len cap : Nat} {xs : List Value} (L : Nat → Nat → Nat) (hown : w1.ownsRow w.heap.size e 4 (.slice (some ⟨w.heap.size, 0, none⟩) len cap) len xs) (hgrow : w.grownBy w1 none) : FillL w w1 w.heap.size len 0 L := by
  have hl : xs.length = len * 4 := hown.1
  refine ⟨fun j hj => ?_, fun i j hj => absurd hj (by omega), fun j => hown.frozenAt j, (Below.refl _ _).grown hgrow (Nat.le_refl _) (fun k h => by cases h), ?_⟩
  · rw [hown.cellAt j (by omega)]
    exact ⟨_, List.getElem?_eq_getElem (by omega)⟩
  · obtain ⟨_, h⟩ := hown
    rcases h with ⟨h, _⟩ | ⟨g, c, cur, h, _, hh, _⟩
    · cases h
    · injection h with h1 _ _
      injection h1 with h1
      injection h1 with h1
      rw [← h1] at hh
      exact (Array.getElem?_eq_some_iff.1 hh).1
/-- A copy of layers: a new row. -/
def CopyL (len : Nat) (L : Nat → Nat → Nat) (w : World) (e : Ending) (w' : World) : Prop :=
  ∃ g, e = .returned (.slice (some ⟨g, 0, none⟩) len len) ∧ w.heap.size ≤ g ∧ g < w'.heap.size ∧ LRow w' g len L ∧ Below w.heap.size w w'
set_option maxRecDepth 100000 in
theorem toLayerS_any (A : Option Addr) (len cap : Nat) (L : Nat → Nat → Nat) (w : World) (hl : len ≤ 1048576) (ha : LArg w A len L) :
    Calls Try.prog 75 #[.slice A len cap] w (CopyL len L w) := by
  obtain ⟨i0, hi, hz0, hz1, hz2⟩ := info_parts info4
  have hlz : (len : Int) ≤ 1048576 := by omega
  have HA := hid ha
  clear ha
  go_enter Try.func75, Try.ntmps75
  go_wp2_with (refine wpList_make_full _ rfl _ _ _ rfl w.heap.size 70 i0 (.agg #[.float .f32 0, .float .f32 0, .float .f32 0, .float .f32 0]) 4 Try.underlying40 hi hz0 hz1 _ _ _ _ len rfl rfl rfl rfl (by rw [hz2]; omega) (by unfold maxLen; omega) (Nat.le_refl _) ?_; intro w1 hown hgrow)
  have HS := hid (FillL.start L hown hgrow)
  clear hown hgrow hi hz0 hz1 hz2
  go_loopw [4] (fun i wr => ∃ k : Nat, k ≤ len ∧ i = .int .i64 k ∧ Hid (FillL w wr w.heap.size len k L)) (fun i _ => len - (intOf i).toNat)
  case atStart => exact ⟨0, Nat.zero_le _, rfl, HS⟩
  case round =>
    obtain ⟨k, hk, rfl, hF⟩ := hrel
    by_cases hlt : k < len
    · obtain ⟨b, off, x0, x1, x2, x3, rfl, hab, c0, c1, c2, c3, e0, e1, e2, e3, _, _, _, _⟩ := (HA.out.below (hF.out.low)).get hlt
      have HE := hid (And.intro e0 (And.intro e1 (And.intro e2 e3)))
      clear e0 e1 e2 e3
      go_wp2_with fail
      refine (toLayer_any x0 x1 x2 x3 _).mono ?_
      rintro e w2 ⟨rfl, hb2⟩
      have hF2 := hid (hF.out.later hb2)
      obtain ⟨u0, h0⟩ := hF2.out.there (k * 4) (by omega)
      obtain ⟨u1, h1⟩ := hF2.out.there (k * 4 + 1) (by omega)
      obtain ⟨u2, h2⟩ := hF2.out.there (k * 4 + 2) (by omega)
      obtain ⟨u3, h3⟩ := hF2.out.there (k * 4 + 3) (by omega)
      have f0 := hF2.out.frz (k * 4)
      have f1 := hF2.out.frz (k * 4 + 1)
      have f2 := hF2.out.frz (k * 4 + 2)
      have f3 := hF2.out.frz (k * 4 + 3)
      have HN := hF2.out.step hlt
      rw [← HE.out.1, ← HE.out.2.1, ← HE.out.2.2.1, ← HE.out.2.2.2] at HN
      have HN := hid HN
      go_wp2
      go_roundw
      case rel => exact ⟨k + 1, by omega, by go_num, HN⟩
      case measure => simp [intOf]; omega
    · obtain rfl : k = len := by omega
      go_wp2
      go_ret
      exact ⟨_, rfl, Nat.le_refl _, hF.out.big, ⟨hF.out.vals, hF.out.frz, fun i j hi hj => by obtain ⟨_, _, _, _, hb⟩ := HA.out i hi; exact (hb j hj).2⟩, hF.out.low⟩
/-- A copy of a ground. -/
def CopyG (len : Nat) (L : Nat → Nat → Nat) (s q : Nat) (w : World) (e : Ending) (w' : World) : Prop :=
  ∃ g, e = .returned (.agg #[.slice (some ⟨g, 0, none⟩) len len, .float .f32 s, .float .f32 q]) ∧ w.heap.size ≤ g ∧ g < w'.heap.size ∧ LRow w' g len L ∧ Below w.heap.size w w'
theorem toGround_any (A : Option Addr) (len cap : Nat) (L : Nat → Nat → Nat) (s q : Nat) (w : World) (hl : len ≤ 1048576) (ha : LArg w A len L) :
    Calls Try.prog 32 #[.agg #[.slice A len cap, .float .f32 s, .float .f32 q]] w (CopyG len L s q w) := by
  have hlz : (len : Int) ≤ 1048576 := by omega
  have HA := hid ha
  clear ha
  go_enter Try.func32, Try.ntmps32
  go_wp2_with fail
  refine (toLayerS_any A len cap L _ hl (HA.out.below ?_)).mono ?_
  · exact (((Below.refl _ _).alloc (Nat.le_refl _) _).alloc (by simp) _).alloc (by simp; omega) _
  rintro e w2 ⟨g, rfl, lg, bg, RG, hb2⟩
  obtain ⟨hc, hf⟩ := bcell hb2
  have hz : w.heap.size + 1 + 1 + 1 ≤ w2.heap.size := by have := hb2.size; simpa using this
  go_wp2
  clear hf
  simp at lg
  refine bodyPost_ret (v := .agg #[.slice (some ⟨g, 0, none⟩) len len, .float .f32 s, .float .f32 q]) (by simp [results, Try.results32, go_sem, hc]) rfl ⟨g, rfl, by omega, by simpa [World.setCell] using bg, ?_, ?_⟩
  · have n2 : g ≠ w.heap.size + 1 + 1 := by omega
    have n1 : g ≠ w.heap.size + 1 := by omega
    exact (((((RG.set n2 _).set n2 _).set n2 _).set n1 _).set n1 _).set n1 _
  · have hb3 : Below w.heap.size w w2 := ((((Below.refl _ _).alloc (Nat.le_refl _) _).alloc (by simp) _).alloc (by simp; omega) _).trans (hb2.mono (by simp; omega))
    exact (((((hb3.setCell (by simp; omega) _).setCell (by simp; omega) _).setCell (by simp; omega) _).setCell (by simp) _).setCell (by simp) _).setCell (by simp) _
theorem same_cv {x y v1 v2 : Nat} (hxy : Hid (nz .f32 x = nz .f32 y)) (h1 : Hid (nz .f64 v1 = fcv .f32 .f64 x)) (h2 : Hid (nz .f64 v2 = fcv .f32 .f64 y)) : nz .f64 v1 = nz .f64 v2 := same_two hxy h1 h2
set_option maxRecDepth 100000 in
theorem eqLayer_any (x0 x1 x2 x3 y0 y1 y2 y3 : Nat) (w : World) (h0 : nz .f32 x0 = nz .f32 y0) (h1 : nz .f32 x1 = nz .f32 y1) (h2 : nz .f32 x2 = nz .f32 y2) (h3 : nz .f32 x3 = nz .f32 y3)
    (bx0 : x0 < 2 ^ 32) (bx1 : x1 < 2 ^ 32) (bx2 : x2 < 2 ^ 32) (bx3 : x3 < 2 ^ 32) (by0 : y0 < 2 ^ 32) (by1 : y1 < 2 ^ 32) (by2 : y2 < 2 ^ 32) (by3 : y3 < 2 ^ 32) :
    Calls Try.prog 119 #[.agg #[.float .f32 x0, .float .f32 x1, .float .f32 x2, .float .f32 x3], .agg #[.float .f32 y0, .float .f32 y1, .float .f32 y2, .float .f32 y3]] w fun e w' => e = .returned (.bool true) ∧ Below w.heap.size w w' := by
  have H0 := hid h0
  have H1 := hid h1
  have H2 := hid h2
  have H3 := hid h3
  have HB := hid (And.intro bx0 (And.intro bx1 (And.intro bx2 (And.intro bx3 (And.intro by0 (And.intro by1 (And.intro by2 by3)))))))
  clear h0 h1 h2 h3 bx0 bx1 bx2 bx3 by0 by1 by2 by3
  go_enter Try.func119, Try.ntmps119
  go_wp2_with (first | (refine wpList_fcv _ rfl _ _ _ rfl _ _ x0 rfl (by decide) rfl Try.underlying28 (narrows_up _) HB.out.1 ?_; intro v0 n0 f0 c0) | (refine wpList_fcv _ rfl _ _ _ rfl _ _ y0 rfl (by decide) rfl Try.underlying28 (narrows_up _) HB.out.2.2.2.2.1 ?_; intro u0 m0 g0 d0))
  refine (sameFloat_any _ _ (same_two H0 f0 g0) _).mono ?_
  rintro e w3 ⟨rfl, k0, rfl⟩
  go_wp2_with (first | (refine wpList_fcv _ rfl _ _ _ rfl _ _ x1 rfl (by decide) rfl Try.underlying28 (narrows_up _) HB.out.2.1 ?_; intro v1 n1 f1 c1) | (refine wpList_fcv _ rfl _ _ _ rfl _ _ y1 rfl (by decide) rfl Try.underlying28 (narrows_up _) HB.out.2.2.2.2.2.1 ?_; intro u1 m1 g1 d1))
  refine (sameFloat_any _ _ (same_two H1 f1 g1) _).mono ?_
  rintro e w4 ⟨rfl, k1, rfl⟩
  go_wp2_with (first | (refine wpList_fcv _ rfl _ _ _ rfl _ _ x2 rfl (by decide) rfl Try.underlying28 (narrows_up _) HB.out.2.2.1 ?_; intro v2 n2 f2 c2) | (refine wpList_fcv _ rfl _ _ _ rfl _ _ y2 rfl (by decide) rfl Try.underlying28 (narrows_up _) HB.out.2.2.2.2.2.2.1 ?_; intro u2 m2 g2 d2))
  refine (sameFloat_any _ _ (same_two H2 f2 g2) _).mono ?_
  rintro e w5 ⟨rfl, k2, rfl⟩
  go_wp2_with (first | (refine wpList_fcv _ rfl _ _ _ rfl _ _ x3 rfl (by decide) rfl Try.underlying28 (narrows_up _) HB.out.2.2.2.1 ?_; intro v3 n3 f3 c3) | (refine wpList_fcv _ rfl _ _ _ rfl _ _ y3 rfl (by decide) rfl Try.underlying28 (narrows_up _) HB.out.2.2.2.2.2.2.2 ?_; intro u3 m3 g3 d3))
  refine (sameFloat_any _ _ (same_two H3 f3 g3) _).mono ?_
  rintro e w6 ⟨rfl, k3, rfl⟩
  go_wp2
  go_ret
  exact ⟨rfl, below_drewN (((Below.refl _ _).alloc (Nat.le_refl _) _).alloc (by simp) _) _⟩
theorem below_of_drew {B : Nat} {a w : World} (h : Below B a.drew w) : Below B a w := ⟨h.os, h.tape, h.output, h.size, h.block⟩
set_option maxHeartbeats 1000000 in
set_option maxRecDepth 100000 in
theorem eqLayerS_any (A B : Option Addr) (len ca cb : Nat) (L M : Nat → Nat → Nat) (w : World) (hl : len ≤ 1048576) (ha : LArg w A len L) (hb : LArg w B len M) (hLM : ∀ i j, i < len → j < 4 → nz .f32 (L i j) = nz .f32 (M i j)) :
    Calls Try.prog 79 #[.slice A len ca, .slice B len cb] w fun e w' => e = .returned (.bool true) ∧ Below w.heap.size w w' := by
  have hlz : (len : Int) ≤ 1048576 := by omega
  have HA := hid ha
  have HB := hid hb
  have HLM := hid hLM
  clear ha hb hLM
  go_enter Try.func79, Try.ntmps79
  go_wp2
  go_loopw [5] (fun i wr => ∃ k : Nat, k ≤ len ∧ i = .int .i64 k ∧ Below w.heap.size w wr) (fun i _ => len - (intOf i).toNat)
  case atStart => exact ⟨0, Nat.zero_le _, rfl, Below.refl _ _⟩
  case round =>
    obtain ⟨k, hk, rfl, hbl⟩ := hrel
    by_cases hlt : k < len
    · obtain ⟨ab, ao, x0, x1, x2, x3, rfl, hab, c0, c1, c2, c3, e0, e1, e2, e3, a0, a1, a2, a3⟩ := (HA.out.below hbl).get hlt
      obtain ⟨bb, bo, y0, y1, y2, y3, rfl, hbb, d0, d1, d2, d3, f0, f1, f2, f3, b0, b1, b2, b3⟩ := (HB.out.below hbl).get hlt
      have h0 : nz .f32 x0 = nz .f32 y0 := by rw [e0, f0]; exact HLM.out k 0 hlt (by omega)
      have h1 : nz .f32 x1 = nz .f32 y1 := by rw [e1, f1]; exact HLM.out k 1 hlt (by omega)
      have h2 : nz .f32 x2 = nz .f32 y2 := by rw [e2, f2]; exact HLM.out k 2 hlt (by omega)
      have h3 : nz .f32 x3 = nz .f32 y3 := by rw [e3, f3]; exact HLM.out k 3 hlt (by omega)
      have HEQ := fun w => hid (eqLayer_any x0 x1 x2 x3 y0 y1 y2 y3 w h0 h1 h2 h3 a0 a1 a2 a3 b0 b1 b2 b3)
      clear h0 h1 h2 h3 a0 a1 a2 a3 b0 b1 b2 b3 e0 e1 e2 e3 f0 f1 f2 f3
      have i1 : (0 : Int) ≤ (k : Int) := by omega
      have i2 : (k : Int) < (len : Int) := by omega
      go_wp2_with fail
      go_region_with ((go_at_call 119; refine ((HEQ _).out).mono ?_; rintro e w3 ⟨rfl, hb3⟩))
      all_goals
        have hb4 := hbl.trans ((below_of_drew hb3).mono hbl.size)
        go_wp2
        go_roundw
        case rel => exact ⟨k + 1, by omega, by go_num, hb4⟩
        case measure => simp [intOf]; omega
    · obtain rfl : k = len := by omega
      go_wp2
      go_ret
      exact ⟨rfl, hbl⟩
set_option maxRecDepth 100000 in
theorem eqGround_any (A B : Option Addr) (len ca cb : Nat) (L M : Nat → Nat → Nat) (s q s' q' : Nat) (w : World) (hl : len ≤ 1048576) (ha : LArg w A len L) (hb : LArg w B len M) (hLM : ∀ i j, i < len → j < 4 → nz .f32 (L i j) = nz .f32 (M i j))
    (hs : nz .f32 s = nz .f32 s') (hq : nz .f32 q = nz .f32 q') (b0 : s < 2 ^ 32) (b1 : q < 2 ^ 32) (b2 : s' < 2 ^ 32) (b3 : q' < 2 ^ 32) :
    Calls Try.prog 34 #[.agg #[.slice A len ca, .float .f32 s, .float .f32 q], .agg #[.slice B len cb, .float .f32 s', .float .f32 q']] w fun e w' => e = .returned (.bool true) ∧ Below w.heap.size w w' := by
  have HA := hid ha
  have HB := hid hb
  have HLM := hid hLM
  have HS := hid hs
  have HQ := hid hq
  have B0 := hid b0
  have B1 := hid b1
  have B2 := hid b2
  have B3 := hid b3
  clear ha hb hLM hs hq b0 b1 b2 b3
  have hst : ∀ a b : Obj, Below w.heap.size w ((w.alloc a).alloc b) := fun a b => ((Below.refl _ _).alloc (Nat.le_refl _) _).alloc (by simp) _
  go_enter Try.func34, Try.ntmps34
  go_wp2_with fail
  refine (eqLayerS_any A B len ca cb L M _ hl (HA.out.below (hst _ _)) (HB.out.below (hst _ _)) HLM.out).mono ?_
  rintro e w2 ⟨rfl, hb2⟩
  obtain ⟨hc, hf⟩ := bcell hb2
  have hb3 := (hst _ _).trans (hb2.mono (hst _ _).size)
  clear hf hst
  go_wp2_with (first | (refine wpList_fcv _ rfl _ _ _ rfl _ _ s rfl (by decide) rfl Try.underlying28 (narrows_up _) B0.out ?_; intro v0 n0 f0 c0) | (refine wpList_fcv _ rfl _ _ _ rfl _ _ s' rfl (by decide) rfl Try.underlying28 (narrows_up _) B2.out ?_; intro u0 m0 g0 d0))
  refine (sameFloat_any _ _ (same_two HS f0 g0) _).mono ?_
  rintro e w3 ⟨rfl, k0, rfl⟩
  go_wp2_with (first | (refine wpList_fcv _ rfl _ _ _ rfl _ _ q rfl (by decide) rfl Try.underlying28 (narrows_up _) B1.out ?_; intro v1 n1 f1 c1) | (refine wpList_fcv _ rfl _ _ _ rfl _ _ q' rfl (by decide) rfl Try.underlying28 (narrows_up _) B3.out ?_; intro u1 m1 g1 d1))
  refine (sameFloat_any _ _ (same_two HQ f1 g1) _).mono ?_
  rintro e w4 ⟨rfl, k1, rfl⟩
  go_wp2
  go_ret
  exact ⟨rfl, below_drewN hb3 _⟩

/-- Only the row g of layers has turned, since w. -/
structure MarksL (w wr : World) (g len i k : Nat) : Prop where
  there : ∀ c, c < len * 4 → ∃ u, wr.cell? ⟨g, c, none⟩ = some u
  vals : ∀ c, c < i * 4 → wr.cell? ⟨g, c, none⟩ = some (.float .f32 (mkW k c))
  frz : ∀ j, wr.frozen? ⟨g, j, none⟩ = false
  only : w.grownBy wr (some g)
theorem MarksL.step {w wr : World} {g len i k : Nat} (h : MarksL w wr g len i k) (hi : i < len) :
    MarksL w ((((wr.setCell ⟨g, i * 4, none⟩ (.float .f32 (floatOfInt .f32 ((k : Int) + 4 * (i : Int))))).setCell ⟨g, i * 4 + 1, none⟩ (.float .f32 (floatOfInt .f32 ((k : Int) + 4 * (i : Int) + 1)))).setCell ⟨g, i * 4 + 2, none⟩ (.float .f32 (floatOfInt .f32 ((k : Int) + 4 * (i : Int) + 1 + 1)))).setCell ⟨g, i * 4 + 3, none⟩ (.float .f32 (floatOfInt .f32 ((k : Int) + 4 * (i : Int) + 1 + 1 + 1)))) g len (i + 1) k := by
  have hth : ∀ j, j < 4 → ∃ u, wr.cell? ⟨g, i * 4 + j, none⟩ = some u := fun j hj => h.there _ (by omega)
  refine ⟨fun c hc => ?_, fun c hc => ?_, fun j => by simp only [World.frozen?_setCell]; exact h.frz j, only_setCell (only_setCell (only_setCell (only_setCell h.only rfl _) rfl _) rfl _) rfl _⟩
  · rw [cell_set4 wr g (i * 4) _ _ _ _ hth]
    split
    · exact ⟨_, rfl⟩
    · split
      · exact ⟨_, rfl⟩
      · split
        · exact ⟨_, rfl⟩
        · split
          · exact ⟨_, rfl⟩
          · exact h.there c hc
  · rw [cell_set4 wr g (i * 4) _ _ _ _ hth]
    unfold mkW
    by_cases e0 : c = i * 4
    · rw [if_pos e0, show (k : Int) + 4 * (i : Int) = (k : Int) + (c : Int) by omega]
    · by_cases e1 : c = i * 4 + 1
      · rw [if_neg e0, if_pos e1, show (k : Int) + 4 * (i : Int) + 1 = (k : Int) + (c : Int) by omega]
      · by_cases e2 : c = i * 4 + 2
        · rw [if_neg e0, if_neg e1, if_pos e2, show (k : Int) + 4 * (i : Int) + 1 + 1 = (k : Int) + (c : Int) by omega]
        · by_cases e3 : c = i * 4 + 3
          · rw [if_neg e0, if_neg e1, if_neg e2, if_pos e3, show (k : Int) + 4 * (i : Int) + 1 + 1 + 1 = (k : Int) + (c : Int) by omega]
          · rw [if_neg e0, if_neg e1, if_neg e2, if_neg e3]
            exact h.vals c (by omega)
/-- A marked slice of layers. -/
def MarkL (A : Option Addr) (len k : Nat) (w : World) (e : Ending) (w' : World) : Prop :=
  e = .returned (.int .i64 (k + 4 * len : Nat)) ∧ ∃ go : Option Nat, (∀ g, go = some g → 0 < len ∧ A = some ⟨g, 0, none⟩) ∧ w.grownBy w' go ∧ (0 < len → ∀ g, A = some ⟨g, 0, none⟩ → LRow w' g len fun i j => mkW k (i * 4 + j))
set_option maxHeartbeats 1000000 in
set_option maxRecDepth 100000 in
theorem markL_any (A : Option Addr) (len cap k : Nat) (lo : Nat) (L : Nat → Nat → Nat) (w : World) (hl : len ≤ 1048576) (hk : k ≤ 16777216) (ha : LOwn w lo A len L) :
    Calls Try.prog 102 #[.slice A len cap, .int .i64 k] w (MarkL A len k w) := by
  have hlz : (len : Int) ≤ 1048576 := by omega
  have hkz : (k : Int) ≤ 16777216 := by omega
  by_cases h0 : 0 < len
  · obtain ⟨g, rfl, _, hlt, hr⟩ := ha h0
    have HS : Hid (MarksL w w g len 0 k) := ⟨fun c hc => ⟨_, by have := hr.cell (c / 4) (c % 4) (by omega) (by omega); rwa [show c / 4 * 4 + c % 4 = c by omega] at this⟩, fun c hc => absurd hc (by omega), hr.frz, World.grownBy.refl w _⟩
    clear hr ha
    go_enter Try.func102, Try.ntmps102
    go_wp2
    go_loopw [1, 5] (fun c i wr => ∃ j : Nat, j ≤ len ∧ i = .int .i64 j ∧ c = .int .i64 ((k : Int) + 4 * (j : Int)) ∧ Hid (MarksL w wr g len j k)) (fun _ i _ => len - (intOf i).toNat)
    case atStart => exact ⟨0, Nat.zero_le _, rfl, by simp, HS⟩
    case round =>
      obtain ⟨j, hj, rfl, rfl, hM⟩ := hrel
      by_cases hjl : j < len
      · obtain ⟨u0, h0⟩ := hM.out.there (j * 4) (by omega)
        obtain ⟨u1, h1⟩ := hM.out.there (j * 4 + 1) (by omega)
        obtain ⟨u2, h2⟩ := hM.out.there (j * 4 + 2) (by omega)
        obtain ⟨u3, h3⟩ := hM.out.there (j * 4 + 3) (by omega)
        have f0 := hM.out.frz (j * 4)
        have f1 := hM.out.frz (j * 4 + 1)
        have f2 := hM.out.frz (j * 4 + 2)
        have f3 := hM.out.frz (j * 4 + 3)
        have HN := hid (hM.out.step hjl)
        go_wp2
        go_roundw
        case rel => exact ⟨j + 1, by omega, by go_num, congrArg (Value.int .i64) (by omega), HN⟩
        case measure => simp [intOf]; omega
      · obtain rfl : j = len := by omega
        go_wp2
        go_ret
        exact ⟨congrArg (fun n => Ending.returned (Value.int .i64 n)) (by omega), some g, (fun g' e => by injection e with e; subst e; exact ⟨h0, rfl⟩), hM.out.only, fun _ g' e => by injection e with e; injection e with e; subst e; exact ⟨fun i j hi hj => hM.out.vals _ (by omega), hM.out.frz, fun i j _ _ => mkW_lt _ _⟩⟩
  · obtain rfl : len = 0 := by omega
    clear ha
    go_enter Try.func102, Try.ntmps102
    go_wp2
    go_loopw [1, 5] (fun c i wr => i = .int .i64 0 ∧ c = .int .i64 (k : Int) ∧ wr = w) (fun _ _ _ => 0)
    case atStart => exact ⟨rfl, rfl, rfl⟩
    case round =>
      obtain ⟨rfl, rfl, rfl⟩ := hrel
      go_wp2
      go_ret
      exact ⟨rfl, none, (fun g' e => by cases e), World.grownBy.refl _ _, fun h => absurd h (Nat.lt_irrefl _)⟩
end Go.Proofs.Ytmomgaiondjinaa
