/- A ground with other thicknesses and speeds: the reference's. No condition. -/
import Derived.Test.YtmomgaiondjinaaOwn
import Derived.Test.YtmomgaiondjinaaMk
import Derived.Test.YtmomgaiondjinaaLst
import Derived.BigRegion
namespace Go.Proofs.Ytmomgaiondjinaa
open Go.RowKit Go.Proofs.Ytmomgaiondjinaa.Fl
def mulV (x y : Nat) : Nat := (floatBits .mul .f32 x y).getD 0
theorem mul_some {x y : Nat} (hx : posB x = true) (hy : posB y = true) : floatBits .mul .f32 x y = some (mulV x y) := by
  unfold posB at hx hy
  simp only [Bool.and_eq_true] at hx hy
  have h1 : finW Ieee.single x := of_decide_eq_true hx.1
  have h2 : finW Ieee.single y := of_decide_eq_true hy.1
  have h : floatBits .mul .f32 x y = some _ := mul_fin Ieee.single h1 h2
  unfold mulV; rw [h]; rfl
theorem mulV_lt {x y : Nat} (hx : posB x = true) (hy : posB y = true) : mulV x y < 2 ^ 32 := by
  have h := floatBits_wf (mul_some hx hy)
  simpa [Lit.wf] using h
theorem run_mul {x y : Nat} (hx : posB x = true) (hy : posB y = true) (t : TypeId) (P : Program) (w : World) : (binOp .mul t (.float .f32 x) (.float .f32 y)).run P w = .ok (.float .f32 (mulV x y)) w := run_float_arith w .mul t .f32 x y _ (mul_some hx hy)
def tgX (L : Nat → Nat → Nat) (by_ : Nat) (i j : Nat) : Nat := if j < 2 then mulV (L i j) by_ else L i j
def tgK (L : Nat → Nat → Nat) (by_ k : Nat) (i j : Nat) : Nat := if i < k then tgX L by_ i j else L i j
/-- The row of layers, turned up to k; nothing else has turned. -/
structure TgRow (w0 wr : World) (g n k : Nat) (L : Nat → Nat → Nat) (by_ : Nat) : Prop where
  row : LRow wr g n (tgK L by_ k)
  only : OnlyIn g (g + 1) w0 wr
  lt : g < wr.heap.size
theorem OnlyIn.refl (lo hi : Nat) (w : World) : OnlyIn lo hi w w := ⟨rfl, rfl, rfl, Nat.le_refl _, fun _ _ _ => rfl⟩
theorem OnlyIn.set {w0 wr : World} {g : Nat} (h : OnlyIn g (g + 1) w0 wr) (o : Nat) (u : Value) : OnlyIn g (g + 1) w0 (wr.setCell ⟨g, o, none⟩ u) :=
  ⟨h.os, h.tape, h.output, by simpa [World.setCell] using h.size, fun b hb hd => (Below.heap_setCell wr ⟨g, o, none⟩ u b (by simp; omega)).trans (h.block b hb hd)⟩
theorem TgRow.same {w0 wr wr' : World} {g n k : Nat} {L : Nat → Nat → Nat} {by_ : Nat} (h : TgRow w0 wr g n k L by_) (e1 : wr'.os = wr.os) (e2 : wr'.tape = wr.tape) (e3 : wr'.output = wr.output) (e4 : wr'.heap = wr.heap) : TgRow w0 wr' g n k L by_ :=
  ⟨h.row.of_block (by rw [e4]), ⟨e1.trans h.only.os, e2.trans h.only.tape, e3.trans h.only.output, by rw [e4]; exact h.only.size, fun b hb hd => by rw [e4]; exact h.only.block b hb hd⟩, by rw [e4]; exact h.lt⟩
theorem cell_set2 (wr : World) (g o : Nat) (v0 v1 : Value) (h0 : ∃ u, wr.cell? ⟨g, o, none⟩ = some u) (h1 : ∃ u, wr.cell? ⟨g, o + 1, none⟩ = some u) (i : Nat) :
    ((wr.setCell ⟨g, o, none⟩ v0).setCell ⟨g, o + 1, none⟩ v1).cell? ⟨g, i, none⟩ = if i = o then some v0 else if i = o + 1 then some v1 else wr.cell? ⟨g, i, none⟩ := by
  have ne : ∀ a b : Nat, a ≠ b → (⟨g, a, none⟩ : Addr) ≠ ⟨g, b, none⟩ := fun a b h e => h (by injection e)
  obtain ⟨u0, h0⟩ := h0
  obtain ⟨u1, h1⟩ := h1
  by_cases e1 : i = o + 1
  · subst e1
    rw [if_neg (by omega), if_pos rfl]
    refine World.cell?_setCell_same _ _ _ (u := u1) ?_
    rw [World.cell?_setCell_other _ _ _ _ (ne _ _ (by omega))]
    exact h1
  · rw [World.cell?_setCell_other _ _ _ _ (ne _ _ (fun h => e1 h.symm))]
    by_cases e0 : i = o
    · subst e0
      rw [if_pos rfl]
      exact World.cell?_setCell_same _ _ _ h0
    · rw [World.cell?_setCell_other _ _ _ _ (ne _ _ (fun h => e0 h.symm)), if_neg e0, if_neg e1]
theorem TgRow.step {w0 wr : World} {g n k : Nat} {L : Nat → Nat → Nat} {by_ : Nat} (h : TgRow w0 wr g n k L by_) (hk : k < n) (b0 : mulV (L k 0) by_ < 2 ^ 32) (b1 : mulV (L k 1) by_ < 2 ^ 32) :
    TgRow w0 ((wr.setCell ⟨g, k * 4, none⟩ (.float .f32 (mulV (L k 0) by_))).setCell ⟨g, k * 4 + 1, none⟩ (.float .f32 (mulV (L k 1) by_))) g n (k + 1) L by_ := by
  have c0 := h.row.cell k 0 hk (by omega)
  have c1 := h.row.cell k 1 hk (by omega)
  rw [Nat.add_zero] at c0
  refine ⟨⟨fun i j hi hj => ?_, fun i => by simp only [World.frozen?_setCell]; exact h.row.frz i, fun i j hi hj => ?_⟩, (h.only.set _ _).set _ _, by simpa [World.setCell] using h.lt⟩
  · rw [cell_set2 wr g (k * 4) _ _ ⟨_, c0⟩ ⟨_, c1⟩]
    by_cases e : i = k
    · subst e
      have hj' : j = 0 ∨ j = 1 ∨ 2 ≤ j := by omega
      rcases hj' with rfl | rfl | hj2
      · rw [if_pos (by omega)]; unfold tgK tgX; rw [if_pos (by omega), if_pos (by omega)]
      · rw [if_neg (by omega), if_pos (by omega)]; unfold tgK tgX; rw [if_pos (by omega), if_pos (by omega)]
      · rw [if_neg (by omega), if_neg (by omega), h.row.cell i j hi hj]
        unfold tgK tgX; rw [if_neg (Nat.lt_irrefl _), if_pos (by omega), if_neg (by omega)]
    · rw [if_neg (by omega), if_neg (by omega), h.row.cell i j hi hj]
      unfold tgK
      by_cases hl : i < k
      · rw [if_pos hl, if_pos (by omega)]
      · rw [if_neg hl, if_neg (by omega)]
  · have hb := h.row.bd i j hi hj
    unfold tgK at hb ⊢
    by_cases e : i = k
    · subst e
      rw [if_pos (by omega)]
      rw [if_neg (Nat.lt_irrefl _)] at hb
      unfold tgX
      have hj' : j = 0 ∨ j = 1 ∨ 2 ≤ j := by omega
      rcases hj' with rfl | rfl | hj2
      · rw [if_pos (by omega)]; exact b0
      · rw [if_pos (by omega)]; exact b1
      · rw [if_neg (by omega)]; exact hb
    · by_cases hl : i < k
      · rw [if_pos hl] at hb; rw [if_pos (by omega)]; exact hb
      · rw [if_neg hl] at hb; rw [if_neg (by omega)]; exact hb
/-- A ground in a box of the call's own. -/
structure FBox (w : World) (b : Nat) (A : Option Addr) (n c s q : Nat) : Prop where
  c0 : w.cell? ⟨b, 0, none⟩ = some (.slice A n c)
  c1 : w.cell? ⟨b, 1, none⟩ = some (.float .f32 s)
  c2 : w.cell? ⟨b, 2, none⟩ = some (.float .f32 q)
  frz : ∀ i, w.frozen? ⟨b, i, none⟩ = false
  lt : b < w.heap.size
theorem FBox.new (w : World) (T : TypeId) (A : Option Addr) (n c s q : Nat) : FBox (w.alloc (.cells #[.slice A n c, .float .f32 s, .float .f32 q] T)) w.heap.size A n c s q := by
  constructor <;> simp
theorem FBox.of_block {w w' : World} {b : Nat} {A : Option Addr} {n c s q : Nat} (h : FBox w b A n c s q) (hb : w'.heap[b]? = w.heap[b]?) (hs : w.heap.size ≤ w'.heap.size) : FBox w' b A n c s q :=
  ⟨(World.cell?_of_block (a := ⟨b, 0, none⟩) hb).trans h.c0, (World.cell?_of_block (a := ⟨b, 1, none⟩) hb).trans h.c1, (World.cell?_of_block (a := ⟨b, 2, none⟩) hb).trans h.c2, fun i => (by rw [← h.frz i]; simp only [World.frozen?, hb]), Nat.lt_of_lt_of_le h.lt hs⟩
theorem FBox.below {w w' : World} {b : Nat} {A : Option Addr} {n c s q : Nat} (h : FBox w b A n c s q) (hb : Below w.heap.size w w') : FBox w' b A n c s q := h.of_block (hb.block b h.lt) hb.size
theorem FBox.only {w w' : World} {lo hi b : Nat} {A : Option Addr} {n c s q : Nat} (f : FBox w b A n c s q) (k : OnlyIn lo hi w w') (hd : b < lo ∨ hi ≤ b) : FBox w' b A n c s q := f.of_block (k.block b f.lt hd) k.size
theorem FBox.set {w : World} {b : Nat} {A : Option Addr} {n c s q : Nat} (f : FBox w b A n c s q) {p : Addr} (hp : b ≠ p.block) (u : Value) : FBox (w.setCell p u) b A n c s q := f.of_block (Below.heap_setCell w p u b hp) (by simp [World.setCell])
theorem FBox.drewN {w : World} {b : Nat} {A : Option Addr} {n c s q : Nat} (f : FBox w b A n c s q) (m : Nat) : FBox (w.drewN m) b A n c s q := ⟨f.c0, f.c1, f.c2, f.frz, f.lt⟩
theorem FBox.set1 {w : World} {b : Nat} {A : Option Addr} {n c s q : Nat} (f : FBox w b A n c s q) (s' : Nat) : FBox (w.setCell ⟨b, 1, none⟩ (.float .f32 s')) b A n c s' q := by
  have ne : ∀ a b' : Nat, a ≠ b' → (⟨b, a, none⟩ : Addr) ≠ ⟨b, b', none⟩ := fun a b h e => h (by injection e)
  refine ⟨?_, World.cell?_setCell_same _ _ _ f.c1, ?_, fun i => by simp only [World.frozen?_setCell]; exact f.frz i, by simpa [World.setCell] using f.lt⟩
  · rw [World.cell?_setCell_other _ _ _ _ (ne _ _ (by omega))]; exact f.c0
  · rw [World.cell?_setCell_other _ _ _ _ (ne _ _ (by omega))]; exact f.c2
/-- A ground of its own, or none. -/
def RetG (m : Nat) (E : Nat → Nat → Nat) (S Q : Nat) (b : Bool) (w : World) (e : Ending) (w' : World) : Prop := ∃ A cap, e = .returned (.tuple #[.agg #[.slice A m cap, .float .f32 S, .float .f32 Q], .bool b]) ∧ Hid (LOwn w' w.heap.size A m E) ∧ Below w.heap.size w w'
theorem RetG.of_none {n n2 n3 : Nat} {E : Nat → Nat → Nat} {w w' : World} {e : Ending} (he : e = .returned (.tuple #[.agg #[.slice none 0 0, .float .f32 0, .float .f32 0], .bool false])) (hb : Below w.heap.size w w') : RetG (lstN n false) E (lstN n2 false) (lstN n3 false) false w e w' := ⟨none, 0, he, fun h => absurd h (Nat.lt_irrefl _), hb⟩
def tgOk (n : Nat) (L : Nat → Nat → Nat) (s q by_ : Nat) : Bool := validB n L s q && (posB by_ && validB n (tgX L by_) (mulV s by_) q)
theorem valid_pos {n : Nat} {L : Nat → Nat → Nat} {s q : Nat} (hv : validB n L s q = true) : posB s = true ∧ ∀ k, k < n → posB (L k 0) = true ∧ posB (L k 1) = true := by
  refine ⟨(validB_iff hv).2.2.1, fun k hk => ?_⟩
  have h := laysB_at (validB_iff hv).2.2.2.2 hk
  unfold layB at h
  simp only [Bool.and_eq_true] at h
  exact ⟨h.1, h.2.1⟩
theorem tgK_zero (L : Nat → Nat → Nat) (by_ : Nat) : tgK L by_ 0 = L := by
  funext i j; unfold tgK; rw [if_neg (Nat.not_lt_zero _)]
theorem row_done {w : World} {g n : Nat} {L : Nat → Nat → Nat} {by_ : Nat} (h : LRow w g n (tgK L by_ n)) : LRow w g n (tgX L by_) := by
  have e : ∀ i j, i < n → tgK L by_ n i j = tgX L by_ i j := fun i j hi => by unfold tgK; rw [if_pos hi]
  exact ⟨fun i j hi hj => by rw [← e i j hi]; exact h.cell i j hi hj, h.frz, fun i j hi hj => by rw [← e i j hi]; exact h.bd i j hi hj⟩
theorem below_up' {a b : World} (h : Below a.heap.size a b) (o : Obj) : Below a.heap.size a (b.alloc o) := h.alloc h.size o
set_option maxHeartbeats 2000000 in
set_option maxRecDepth 100000 in
theorem specTurnGround_any (A : Option Addr) (n c : Nat) (L : Nat → Nat → Nat) (s q p : Nat) (w : World) (hn : n ≤ 1048576) (ha : LArg w A n L) :
    Calls Try.prog 52 #[.agg #[.slice A n c, .float .f32 s, .float .f32 q], .float .f32 p] w (RetG (lstN n (tgOk n L s q p)) (tgX L p) (lstN (mulV s p) (tgOk n L s q p)) (lstN q (tgOk n L s q p)) (tgOk n L s q p) w) := by
  have hnz : (n : Int) ≤ 1048576 := by omega
  have hZ : (w.alloc (.cells #[.slice A n c, .float .f32 s, .float .f32 q] 42)).heap.size = w.heap.size + 1 := by simp
  have hbl := below_grow1 (below_alloc1 w (.cells #[.slice A n c, .float .f32 s, .float .f32 q] 42)) (.cells #[.slice none 0 0, .float .f32 0, .float .f32 0] 42)
  have XG := (GBox.new w 42 A n c s q).below (below_alloc1 _ (.cells #[.slice none 0 0, .float .f32 0, .float .f32 0] 42))
  have XR := FBox.new (w.alloc (.cells #[.slice A n c, .float .f32 s, .float .f32 q] 42)) 42 none 0 0 0 0
  rw [show FBox _ (w.alloc (.cells #[.slice A n c, .float .f32 s, .float .f32 q] 42)).heap.size none 0 0 0 0 = FBox _ (w.heap.size + 1) none 0 0 0 0 by rw [hZ]] at XR
  have HG := hid XG
  have HR := hid XR
  have HL := hid (ha.below hbl)
  have HN := hid hn
  have HZ := hid hZ
  clear ha hn XG XR hZ
  cases hv : validB n L s q
  · have HV := hid hv
    have H : tgOk n L s q p = false := by unfold tgOk; rw [hv]; rfl
    rw [H]
    clear hv H
    go_enter Try.func52, Try.ntmps52
    go_wp2_with (go_at_call 80; refine (specIs_any _ A n c L s q _ HN.out HG.out.c0 HG.out.c1 HG.out.c2 HL.out).mono ?_; rintro e w1 ⟨rfl, n1, rfl⟩; rw [HV.out])
    refine bodyPost_ret (v := .tuple #[.agg #[.slice none 0 0, .float .f32 0, .float .f32 0], .bool false]) (by simp [results, Try.results52, go_sem]) rfl (RetG.of_none rfl ?_)
    exact ((below_drewN hbl n1 |>.setCell (Nat.le_succ _) _).setCell (Nat.le_succ _) _).setCell (Nat.le_succ _) _
  · have HV := hid hv
    have HP2 := hid (valid_pos hv)
    have H1 := hid (validB_iff hv).1
    cases hp : posB p
    · have HP := hid hp
      have H : tgOk n L s q p = false := by unfold tgOk; rw [hv, hp]; rfl
      rw [H]
      clear hv H hp
      go_enter Try.func52, Try.ntmps52
      go_wp2_with (first | (go_at_call 80; refine (specIs_any _ A n c L s q _ HN.out HG.out.c0 HG.out.c1 HG.out.c2 HL.out).mono ?_; rintro e w1 ⟨rfl, n1, rfl⟩; rw [HV.out]) | (go_at_call 105; refine (above_any _ _).mono ?_; rintro e w1 ⟨rfl, n2, rfl⟩; rw [HP.out]))
      refine bodyPost_ret (v := .tuple #[.agg #[.slice none 0 0, .float .f32 0, .float .f32 0], .bool false]) (by simp [results, Try.results52, go_sem]) rfl (RetG.of_none rfl ?_)
      exact ((below_drewN hbl _ |>.setCell (Nat.le_succ _) _).setCell (Nat.le_succ _) _).setCell (Nat.le_succ _) _
    · have HP := hid hp
      have H : tgOk n L s q p = validB n (tgX L p) (mulV s p) q := by unfold tgOk; rw [hv, hp]; rfl
      rw [H]
      clear hv H
      go_enter Try.func52, Try.ntmps52
      go_wp2_with (first | (go_at_call 80; refine (specIs_any _ A n c L s q _ HN.out HG.out.c0 HG.out.c1 HG.out.c2 HL.out).mono ?_; rintro e w1 ⟨rfl, n1, rfl⟩; rw [HV.out]) | (go_at_call 105; refine (above_any _ _).mono ?_; rintro e w1 ⟨rfl, n2, rfl⟩; rw [HP.out]))
      refine (own_any _ A n c L s q _ H1.out HN.out (by exact ⟨HG.out.c0, HG.out.c1, HG.out.c2, HG.out.lt⟩) (by exact HL.out)).mono ?_
      rintro e w2 ⟨g, cap, rfl, HO⟩
      have hb2 := below_step hbl HO.out.2.2.2 rfl rfl rfl rfl
      have XR2 := HR.out.below (below_self HO.out.2.2.2 rfl rfl rfl rfl)
      have lg := HO.out.1
      have bg := HO.out.2.1
      have lg : w.heap.size + 1 + 1 ≤ g := by simpa using lg
      have XR3 := XR2.below (below_alloc1 w2 (.cells #[.slice (some ⟨g, 0, none⟩) n cap, .float .f32 s, .float .f32 q] 42))
      have XB3 := FBox.new w2 42 (some ⟨g, 0, none⟩) n cap s q
      have ROW : Hid (TgRow (w2.alloc (.cells #[.slice (some ⟨g, 0, none⟩) n cap, .float .f32 s, .float .f32 q] 42)) (w2.alloc (.cells #[.slice (some ⟨g, 0, none⟩) n cap, .float .f32 s, .float .f32 q] 42)) g n 0 L p) := by
        refine ⟨?_, OnlyIn.refl _ _ _, Nat.lt_of_lt_of_le bg (below_alloc1 w2 _).size⟩
        rw [tgK_zero]
        exact HO.out.2.2.1.of_block ((below_alloc1 w2 _).block g bg)
      have hb3 := below_up' hb2 (.cells #[.slice (some ⟨g, 0, none⟩) n cap, .float .f32 s, .float .f32 q] 42)
      have HR3 := hid XR3
      have HB3 := hid XB3
      clear XR2 XR3 XB3 hbl hb2
      go_wp2
      go_loopw [7] (fun i wr => ∃ k : Nat, k ≤ n ∧ i = .int .i64 k ∧ Hid (TgRow (w2.alloc (.cells #[.slice (some ⟨g, 0, none⟩) n cap, .float .f32 s, .float .f32 q] 42)) wr g n k L p)) (fun i _ => n - (intOf i).toNat)
      case atStart => exact ⟨0, Nat.zero_le _, rfl, ROW⟩
      case round =>
        obtain ⟨k, hk, rfl, hT⟩ := hrel
        have XB := HB3.out.only hT.out.only (.inr bg)
        have XBc := XB.c0
        have ngb : g ≠ w2.heap.size := by omega
        by_cases hlt : k < n
        · obtain ⟨x0, hx0⟩ : ∃ x, x = L k 0 := ⟨_, rfl⟩
          obtain ⟨x1, hx1⟩ : ∃ x, x = L k 1 := ⟨_, rfl⟩
          obtain ⟨p0, p1⟩ := HP2.out.2 k hlt
          rw [← hx0] at p0
          rw [← hx1] at p1
          have q0 := run_mul p0 hp 23 Try.prog
          have q1 := run_mul p1 hp 23 Try.prog
          have l0 := mulV_lt p0 hp
          have l1 := mulV_lt p1 hp
          have HN := hid (hT.out.step hlt (by rw [← hx0]; exact l0) (by rw [← hx1]; exact l1))
          rw [← hx0, ← hx1] at HN
          obtain ⟨r0, hr0⟩ : ∃ r, r = mulV x0 p := ⟨_, rfl⟩
          obtain ⟨r1, hr1⟩ : ∃ r, r = mulV x1 p := ⟨_, rfl⟩
          rw [← hr0, ← hr1] at HN
          rw [← hr0] at q0
          rw [← hr1] at q1
          have c0 := hT.out.row.cell k 0 hlt (by omega)
          have c1 := hT.out.row.cell k 1 hlt (by omega)
          have e0 : tgK L p k k 0 = x0 := by unfold tgK; rw [if_neg (Nat.lt_irrefl _), hx0]
          have e1 : tgK L p k k 1 = x1 := by unfold tgK; rw [if_neg (Nat.lt_irrefl _), hx1]
          rw [e0, Nat.add_zero] at c0
          rw [e1] at c1
          have f0 := hT.out.row.frz (k * 4)
          have f1 := hT.out.row.frz (k * 4 + 1)
          have XB1 := XB.set (p := ⟨g, k * 4, none⟩) (fun e => ngb e.symm) (.float .f32 r0)
          have XBd := XB1.c0
          have c1' : (wr.setCell ⟨g, k * 4, none⟩ (.float .f32 r0)).cell? ⟨g, k * 4 + 1, none⟩ = some (.float .f32 x1) := by
            rw [World.cell?_setCell_other _ _ _ _ (fun e => by injection e; omega)]; exact c1
          have f1' : (wr.setCell ⟨g, k * 4, none⟩ (.float .f32 r0)).frozen? ⟨g, k * 4 + 1, none⟩ = false := by simp only [World.frozen?_setCell]; exact f1
          have i1 : (0 : Int) ≤ (k : Int) := by omega
          have i2 : (k : Int) < (n : Int) := by omega
          clear hx0 hx1 hr0 hr1 p0 p1 l0 l1 e0 e1 XB XB1
          go_wp2_with fail
          go_region
          go_wp2_with fail
          go_region
          go_wp2
          go_roundw
          case rel => exact ⟨k + 1, by omega, by go_num, HN.out.same rfl rfl rfl rfl⟩
          case measure => simp [intOf]; omega
        · obtain rfl : k = n := by omega
          have ROW2 := hid (row_done hT.out.row)
          have XR := HR3.out.only hT.out.only (.inl (by omega))
          have hb4 := below_only hb3 hT.out.only (by omega) rfl rfl rfl rfl
          have gl := hT.out.lt
          have qs := run_mul HP2.out.1 hp 23 Try.prog
          have ls := mulV_lt HP2.out.1 hp
          have XBs := XB.c1
          have XBq := XB.c2
          have XBf := XB.frz 1
          have XB2 := XB.set1 (mulV s p)
          have XR2 := XR.set (p := ⟨w2.heap.size, 1, none⟩) (by show w.heap.size + 1 ≠ w2.heap.size; omega) (.float .f32 (mulV s p))
          have ROW3 := hid (ROW2.out.set (p := ⟨w2.heap.size, 1, none⟩) ngb (.float .f32 (mulV s p)))
          have hb5 := hb4.setCell (p := ⟨w2.heap.size, 1, none⟩) (by show w.heap.size ≤ w2.heap.size; omega) (.float .f32 (mulV s p))
          have gl2 : g < (wr.setCell ⟨w2.heap.size, 1, none⟩ (.float .f32 (mulV s p))).heap.size := by simpa [World.setCell] using gl
          obtain ⟨b0, b1, b2, b3, b4⟩ := id XB2
          obtain ⟨r0, r1, r2, r3, r4⟩ := id XR2
          have r30 := r3 0
          have r31 := r3 1
          have r32 := r3 2
          clear r3 b3
          have HXB := hid XB
          have HXR := hid XR
          clear XB XR XB2 XR2 gl ls
          cases hv2 : validB k (tgX L p) (mulV s p) q
          · have HV2 := hid hv2
            clear hv2
            go_wp2_with fail
            refine (specIs_any _ (some ⟨g, 0, none⟩) k cap (tgX L p) (mulV s p) q _ HN.out b0 b1 b2 (ROW3.out.arg gl2)).mono ?_
            rintro e w5 ⟨rfl, n5, rfl⟩
            rw [HV2.out]
            go_wp2
            refine bodyPost_ret (v := .tuple #[.agg #[.slice none 0 0, .float .f32 0, .float .f32 0], .bool false]) (by simp [results, Try.results52, go_sem, r0, r1, r2]) rfl ?_
            rw [HV2.out]
            refine RetG.of_none rfl ?_
            exact ((below_drewN hb5 n5 |>.setCell (Nat.le_succ _) _).setCell (Nat.le_succ _) _).setCell (Nat.le_succ _) _
          · have HV2 := hid hv2
            clear hv2
            go_wp2_with fail
            refine (specIs_any _ (some ⟨g, 0, none⟩) k cap (tgX L p) (mulV s p) q _ HN.out b0 b1 b2 (ROW3.out.arg gl2)).mono ?_
            rintro e w5 ⟨rfl, n5, rfl⟩
            rw [HV2.out]
            go_wp2
            have ng : g ≠ w.heap.size + 1 := by omega
            refine bodyPost_ret (v := .tuple #[.agg #[.slice (some ⟨g, 0, none⟩) k cap, .float .f32 (mulV s p), .float .f32 q], .bool true]) (by simp [results, Try.results52, go_sem, r0, r1, r2]) rfl ?_
            rw [HV2.out]
            refine ⟨some ⟨g, 0, none⟩, cap, rfl, ?_, ?_⟩
            · refine fun _ => ⟨g, rfl, by omega, by simpa [World.setCell] using gl2, ?_⟩
              exact (((ROW3.out.of_block (w' := (wr.setCell ⟨w2.heap.size, 1, none⟩ (.float .f32 (mulV s p))).drewN n5) rfl).set ng _).set ng _).set ng _
            · exact ((below_drewN hb5 n5 |>.setCell (Nat.le_succ _) _).setCell (Nat.le_succ _) _).setCell (Nat.le_succ _) _
end Go.Proofs.Ytmomgaiondjinaa
