/- Arguments in memory: slices of floats, slices of layers, grounds, opened to their cells. No condition. -/
import Derived.Test.YtocclddnaaaohaaFl
import Derived.Deep.Slices
import Derived.Deep.Fields
import Derived.ChangeSame
import Derived.ProofKit
import Derived.OpenShut
import Derived.Lib.SmallJoins
namespace Go.Proofs.Ytocclddnaaaohaa.Fl
open Go Ieee Go.RowKit Go.ChangeShapes Go.WideShapes Go.Deep Go.Joins

theorem addb (a : Addr) (n : Nat) : (a.add n).block = a.block := by unfold Addr.add; split <;> rfl
theorem add_of_add (a : Addr) (i j : Nat) : (a.add i).add j = a.add (i + j) := by
  unfold Addr.add
  by_cases hi : i = 0 <;> by_cases hj : j = 0 <;> simp [hi, hj, Nat.add_assoc]
theorem lt_of_cell {w : World} {a : Addr} {v : Value} (h : w.cell? a = some v) : a.block < w.heap.size := by
  rcases Nat.lt_or_ge a.block w.heap.size with hlt | hge
  · exact hlt
  · exfalso
    unfold World.cell? at h
    simp [Array.getElem?_eq_none hge] at h
theorem bcell {W w1 : World} (hb : Below W.heap.size W w1) : (∀ b o, b < W.heap.size → w1.cell? ⟨b, o, none⟩ = W.cell? ⟨b, o, none⟩) ∧ (∀ b o, b < W.heap.size → w1.frozen? ⟨b, o, none⟩ = W.frozen? ⟨b, o, none⟩) :=
  ⟨fun b o h => hb.cell (p := ⟨b, o, none⟩) h, fun b o h => hb.frozen (p := ⟨b, o, none⟩) h⟩
theorem wf32 {b : Nat} (h : (Lit.float .f32 b).wf = true) : b < 2 ^ 32 := by simpa [Lit.wf] using h
theorem wf_of32 {b : Nat} (h : b < 2 ^ 32) : (Lit.float .f32 b).wf = true := by simpa [Lit.wf] using h

/-- A slice of 32-bit floats that came in, nil or not. -/
def FArg (w : World) (A : Option Addr) (len : Nat) (V : Nat → Nat) : Prop :=
  ∀ i, i < len → ∃ a : Addr, A = some a ∧ a.block < w.heap.size ∧ w.cell? (a.add i) = some (.float .f32 (V i)) ∧ V i < 2 ^ 32
/-- A slice of layers of four 32-bit floats. -/
def LArg (w : World) (A : Option Addr) (len : Nat) (L : Nat → Nat → Nat) : Prop :=
  ∀ i, i < len → ∃ b off : Nat, A = some ⟨b, off, none⟩ ∧ b < w.heap.size ∧ ∀ j, j < 4 → w.cell? ⟨b, off + i * 4 + j, none⟩ = some (.float .f32 (L i j)) ∧ L i j < 2 ^ 32
theorem LArg.get {w : World} {A : Option Addr} {len : Nat} {L : Nat → Nat → Nat} (h : LArg w A len L) {i : Nat} (hi : i < len) :
    ∃ b off x0 x1 x2 x3 : Nat, A = some ⟨b, off, none⟩ ∧ b < w.heap.size ∧ w.cell? ⟨b, off + i * 4, none⟩ = some (.float .f32 x0) ∧ w.cell? ⟨b, off + i * 4 + 1, none⟩ = some (.float .f32 x1) ∧ w.cell? ⟨b, off + i * 4 + 2, none⟩ = some (.float .f32 x2) ∧ w.cell? ⟨b, off + i * 4 + 3, none⟩ = some (.float .f32 x3) ∧
      x0 = L i 0 ∧ x1 = L i 1 ∧ x2 = L i 2 ∧ x3 = L i 3 ∧ x0 < 2 ^ 32 ∧ x1 < 2 ^ 32 ∧ x2 < 2 ^ 32 ∧ x3 < 2 ^ 32 := by
  obtain ⟨b, off, e, hb, hc⟩ := h i hi
  exact ⟨b, off, _, _, _, _, e, hb, (hc 0 (by omega)).1, (hc 1 (by omega)).1, (hc 2 (by omega)).1, (hc 3 (by omega)).1, rfl, rfl, rfl, rfl, (hc 0 (by omega)).2, (hc 1 (by omega)).2, (hc 2 (by omega)).2, (hc 3 (by omega)).2⟩
theorem FArg.below {w w' : World} {A : Option Addr} {len : Nat} {V : Nat → Nat} (h : FArg w A len V) (hb : Below w.heap.size w w') : FArg w' A len V := fun i hi => by
  obtain ⟨a, e, hlt, hc, hv⟩ := h i hi
  exact ⟨a, e, Nat.lt_of_lt_of_le hlt hb.size, (hb.cell (p := a.add i) (by rw [addb]; exact hlt)).trans hc, hv⟩
theorem LArg.below {w w' : World} {A : Option Addr} {len : Nat} {L : Nat → Nat → Nat} (h : LArg w A len L) (hb : Below w.heap.size w w') : LArg w' A len L := fun i hi => by
  obtain ⟨b, off, e, hlt, hc⟩ := h i hi
  exact ⟨b, off, e, Nat.lt_of_lt_of_le hlt hb.size, fun j hj => ⟨(hb.cell (p := ⟨b, off + i * 4 + j, none⟩) hlt).trans (hc j hj).1, (hc j hj).2⟩⟩

/-- A ground in a box. -/
structure GBox (w : World) (b : Nat) (A : Option Addr) (n c s q : Nat) : Prop where
  c0 : w.cell? ⟨b, 0, none⟩ = some (.slice A n c)
  c1 : w.cell? ⟨b, 1, none⟩ = some (.float .f32 s)
  c2 : w.cell? ⟨b, 2, none⟩ = some (.float .f32 q)
  lt : b < w.heap.size
theorem GBox.new (w : World) (T : TypeId) (A : Option Addr) (n c s q : Nat) : GBox (w.alloc (.cells #[.slice A n c, .float .f32 s, .float .f32 q] T)) w.heap.size A n c s q := by
  constructor <;> simp
theorem below_step {a b b' c : World} (h : Below a.heap.size a b) (k : Below b'.heap.size b' c) (e1 : b'.os = b.os) (e2 : b'.tape = b.tape) (e3 : b'.output = b.output) (e4 : b'.heap = b.heap) : Below a.heap.size a c := by
  have h' : Below a.heap.size a b' := ⟨e1.trans h.os, e2.trans h.tape, e3.trans h.output, by rw [e4]; exact h.size, fun i hi => by rw [e4]; exact h.block i hi⟩
  exact h'.trans (k.mono h'.size)
theorem below_self {b b' c : World} (k : Below b'.heap.size b' c) (e1 : b'.os = b.os) (e2 : b'.tape = b.tape) (e3 : b'.output = b.output) (e4 : b'.heap = b.heap) : Below b.heap.size b c := below_step (Below.refl _ _) k e1 e2 e3 e4
theorem GBox.below {w w' : World} {b : Nat} {A : Option Addr} {n c s q : Nat} (h : GBox w b A n c s q) (hb : Below w.heap.size w w') : GBox w' b A n c s q :=
  ⟨(hb.cell (p := ⟨b, 0, none⟩) h.lt).trans h.c0, (hb.cell (p := ⟨b, 1, none⟩) h.lt).trans h.c1, (hb.cell (p := ⟨b, 2, none⟩) h.lt).trans h.c2, Nat.lt_of_lt_of_le h.lt hb.size⟩
theorem below_alloc1 (w : World) (o : Obj) : Below w.heap.size w (w.alloc o) := (Below.refl _ _).alloc (Nat.le_refl _) _
/-- A row of floats of the call's own: its cells, and that it may be written. -/
structure Row (w : World) (g len : Nat) (V : Nat → Nat) : Prop where
  cell : ∀ i, i < len → w.cell? ⟨g, i, none⟩ = some (.float .f32 (V i))
  frz : ∀ i, w.frozen? ⟨g, i, none⟩ = false
  bd : ∀ i, i < len → V i < 2 ^ 32
/-- A slice of the call's own, in a block from lo on; nil, if it is empty. -/
def FOwn (w : World) (lo : Nat) (A : Option Addr) (len : Nat) (V : Nat → Nat) : Prop :=
  0 < len → ∃ g, A = some ⟨g, 0, none⟩ ∧ lo ≤ g ∧ g < w.heap.size ∧ Row w g len V
theorem plain_add (g k : Nat) : (⟨g, 0, none⟩ : Addr).add k = ⟨g, k, none⟩ := by
  unfold Addr.add; by_cases h : k = 0 <;> simp [h]
theorem FOwn.arg {w : World} {lo : Nat} {A : Option Addr} {len : Nat} {V : Nat → Nat} (h : FOwn w lo A len V) : FArg w A len V := fun i hi => by
  obtain ⟨g, e, _, hlt, hr⟩ := h (by omega)
  exact ⟨⟨g, 0, none⟩, e, hlt, by rw [plain_add]; exact hr.cell i hi, hr.bd i hi⟩
theorem Row.arg {w : World} {g len : Nat} {V : Nat → Nat} (h : Row w g len V) (hlt : g < w.heap.size) : FArg w (some ⟨g, 0, none⟩) len V := fun i hi =>
  ⟨⟨g, 0, none⟩, rfl, hlt, by rw [plain_add]; exact h.cell i hi, h.bd i hi⟩
theorem Row.own {w : World} {g len lo : Nat} {V : Nat → Nat} (h : Row w g len V) (hlo : lo ≤ g) (hlt : g < w.heap.size) : FOwn w lo (some ⟨g, 0, none⟩) len V := fun _ => ⟨g, rfl, hlo, hlt, h⟩
theorem below_trans {a b c : World} (h : Below a.heap.size a b) (k : Below b.heap.size b c) : Below a.heap.size a c := h.trans (k.mono h.size)
theorem Row.of_block {w w' : World} {g len : Nat} {V : Nat → Nat} (h : Row w g len V) (hb : w'.heap[g]? = w.heap[g]?) : Row w' g len V :=
  ⟨fun i hi => (World.cell?_of_block (a := ⟨g, i, none⟩) hb).trans (h.cell i hi), fun i => (by rw [← h.frz i]; simp only [World.frozen?, hb]), h.bd⟩
theorem Row.set {w : World} {g len : Nat} {V : Nat → Nat} (h : Row w g len V) {p : Addr} (hp : g ≠ p.block) (u : Value) : Row (w.setCell p u) g len V := h.of_block (Below.heap_setCell w p u g hp)
theorem Row.below {w w' : World} {g len : Nat} {V : Nat → Nat} (h : Row w g len V) (hlt : g < w.heap.size) (hb : Below w.heap.size w w') : Row w' g len V := h.of_block (hb.block g hlt)
theorem FOwn.below {w w' : World} {lo : Nat} {A : Option Addr} {len : Nat} {V : Nat → Nat} (h : FOwn w lo A len V) (hb : Below w.heap.size w w') : FOwn w' lo A len V := fun hl => by
  obtain ⟨g, e, hg, hlt, hr⟩ := h hl
  exact ⟨g, e, hg, Nat.lt_of_lt_of_le hlt hb.size, hr.of_block (hb.block g hlt)⟩
theorem FOwn.mono {w : World} {lo lo' : Nat} {A : Option Addr} {len : Nat} {V : Nat → Nat} (h : FOwn w lo A len V) (hl : lo' ≤ lo) : FOwn w lo' A len V := fun hn => by
  obtain ⟨g, e, hg, r⟩ := h hn
  exact ⟨g, e, Nat.le_trans hl hg, r⟩
theorem FArg.drewN {w : World} {A : Option Addr} {len : Nat} {V : Nat → Nat} (h : FArg w A len V) (n : Nat) : FArg (w.drewN n) A len V := h
theorem FOwn.drewN {w : World} {lo : Nat} {A : Option Addr} {len : Nat} {V : Nat → Nat} (h : FOwn w lo A len V) (n : Nat) : FOwn (w.drewN n) lo A len V := fun hl => by
  obtain ⟨g, e, hg, hlt, hr⟩ := h hl
  exact ⟨g, e, hg, hlt, hr.1, hr.2, hr.3⟩
/-- A row of layers of the call's own. -/
structure LRow (w : World) (g len : Nat) (L : Nat → Nat → Nat) : Prop where
  cell : ∀ i j, i < len → j < 4 → w.cell? ⟨g, i * 4 + j, none⟩ = some (.float .f32 (L i j))
  frz : ∀ i, w.frozen? ⟨g, i, none⟩ = false
  bd : ∀ i j, i < len → j < 4 → L i j < 2 ^ 32
def LOwn (w : World) (lo : Nat) (A : Option Addr) (len : Nat) (L : Nat → Nat → Nat) : Prop :=
  0 < len → ∃ g, A = some ⟨g, 0, none⟩ ∧ lo ≤ g ∧ g < w.heap.size ∧ LRow w g len L
theorem LOwn.arg {w : World} {lo : Nat} {A : Option Addr} {len : Nat} {L : Nat → Nat → Nat} (h : LOwn w lo A len L) : LArg w A len L := fun i hi => by
  obtain ⟨g, e, _, hlt, hr⟩ := h (by omega)
  exact ⟨g, 0, e, hlt, fun j hj => ⟨by rw [Nat.zero_add]; exact hr.cell i j hi hj, hr.bd i j hi hj⟩⟩
theorem LRow.of_block {w w' : World} {g len : Nat} {L : Nat → Nat → Nat} (h : LRow w g len L) (hb : w'.heap[g]? = w.heap[g]?) : LRow w' g len L :=
  ⟨fun i j hi hj => (World.cell?_of_block (a := ⟨g, i * 4 + j, none⟩) hb).trans (h.cell i j hi hj), fun i => (by rw [← h.frz i]; simp only [World.frozen?, hb]), h.bd⟩
theorem LOwn.below {w w' : World} {lo : Nat} {A : Option Addr} {len : Nat} {L : Nat → Nat → Nat} (h : LOwn w lo A len L) (hb : Below w.heap.size w w') : LOwn w' lo A len L := fun hl => by
  obtain ⟨g, e, hg, hlt, hr⟩ := h hl
  exact ⟨g, e, hg, Nat.lt_of_lt_of_le hlt hb.size, hr.of_block (hb.block g hlt)⟩
theorem LOwn.mono {w : World} {lo lo' : Nat} {A : Option Addr} {len : Nat} {L : Nat → Nat → Nat} (h : LOwn w lo A len L) (hl : lo' ≤ lo) : LOwn w lo' A len L := fun hn => by
  obtain ⟨g, e, hg, r⟩ := h hn
  exact ⟨g, e, Nat.le_trans hl hg, r⟩
theorem LArg.drewN {w : World} {A : Option Addr} {len : Nat} {L : Nat → Nat → Nat} (h : LArg w A len L) (n : Nat) : LArg (w.drewN n) A len L := h
theorem LRow.set {w : World} {g len : Nat} {L : Nat → Nat → Nat} (h : LRow w g len L) {p : Addr} (hp : g ≠ p.block) (u : Value) : LRow (w.setCell p u) g len L := h.of_block (Below.heap_setCell w p u g hp)
theorem LRow.arg {w : World} {g len : Nat} {L : Nat → Nat → Nat} (h : LRow w g len L) (hlt : g < w.heap.size) : LArg w (some ⟨g, 0, none⟩) len L := fun i hi =>
  ⟨g, 0, rfl, hlt, fun j hj => ⟨by rw [Nat.zero_add]; exact h.cell i j hi hj, h.bd i j hi hj⟩⟩
theorem LRow.own {w : World} {g len lo : Nat} {L : Nat → Nat → Nat} (h : LRow w g len L) (hlo : lo ≤ g) (hlt : g < w.heap.size) : LOwn w lo (some ⟨g, 0, none⟩) len L := fun _ => ⟨g, rfl, hlo, hlt, h⟩
theorem LOwn.drewN {w : World} {lo : Nat} {A : Option Addr} {len : Nat} {L : Nat → Nat → Nat} (h : LOwn w lo A len L) (n : Nat) : LOwn (w.drewN n) lo A len L := fun hl => by
  obtain ⟨g, e, hg, hlt, hr⟩ := h hl
  exact ⟨g, e, hg, hlt, hr.1, hr.2, hr.3⟩

section
variable {H : Type} {enc : TypeId × Value → H} {P : Program} {w : World} {base : Nat} {spare : Nat → Bool} {held : Bool}
theorem trod_float {t : TypeId} {k : FloatKind} {fuel : Nat} {cs : List Value} {x : DataW H × List MemPlace} (ht : P.underlying t = some (.float k)) (h : DataW.trod enc P w base spare held fuel t cs = some x) :
    ∃ b, cs = [.float k b] ∧ x = (.lit (.float k b), []) ∧ (Lit.float k b).wf = true := by
  cases fuel with
  | zero => simp [DataW.trod] at h
  | succ n =>
    unfold DataW.trod at h
    rw [ht] at h
    split at h <;> simp_all
theorem f32s_of {t e : TypeId} {fuel : Nat} {cs : List Value} {x : DataW H × List MemPlace} (ht : P.underlying t = some (.slice e)) (he : P.underlying e = some (.float .f32)) (hc : P.cellsOf e = 1) (h : DataW.trod enc P w base spare held fuel t cs = some x) :
    ∃ A len cap V, cs = [.slice A len cap] ∧ len ≤ maxLen ∧ FArg w A len V := by
  rcases open_slice1 ht hc h with ⟨rfl, _⟩ | ⟨a, len, cap, m, n, V, D, Pl, rfl, hb, hl, hm, hmm, _, hx⟩
  · exact ⟨none, 0, 0, fun _ => 0, rfl, by unfold maxLen; omega, fun i hi => absurd hi (Nat.not_lt_zero _)⟩
  · have hle : len ≤ m := by rw [hmm]; split <;> omega
    obtain ⟨F, hF⟩ := choose_lt (α := Nat) (n := m) (p := fun i b => V i = .float .f32 b ∧ b < 2 ^ 32) (fun i hi => by
      obtain ⟨_, h2⟩ := hx i hi
      obtain ⟨b, hb1, _, hw⟩ := trod_float he h2
      exact ⟨b, by simpa using hb1, wf32 hw⟩)
    refine ⟨some a, len, cap, F, rfl, by omega, fun i hi => ?_⟩
    have h1 := (hx i (by omega)).1
    rw [(hF i (by omega)).1] at h1
    have h2 := lt_of_cell h1
    rw [addb] at h2
    exact ⟨a, rfl, h2, h1, (hF i (by omega)).2⟩
theorem open_f32s {r : Reach} {b0 : Nat} {t e : TypeId} {v : Value} {d : DataW H} {p : List MemPlace} (ht : P.underlying t = some (.slice e)) (he : P.underlying e = some (.float .f32)) (hc : P.cellsOf e = 1)
    (hv : Value.okWide P w r b0 t v) (h : DataW.Trod enc P w base spare held t v d p) : ∃ A len cap V, v = .slice A len cap ∧ len ≤ maxLen ∧ FArg w A len V := by
  obtain ⟨A, len, cap, rfl⟩ := okWide_slice ht hv
  obtain ⟨fuel, hf⟩ := h
  obtain ⟨A', len', cap', V, hcs, hl, hF⟩ := f32s_of ht he hc hf
  simp [Value.cells] at hcs
  obtain ⟨rfl, rfl, rfl⟩ := hcs
  exact ⟨A, len, cap, V, rfl, hl, hF⟩
theorem layers_of {t e : TypeId} {f0 f1 f2 f3 : Field} {fuel : Nat} {cs : List Value} {x : DataW H × List MemPlace} (ht : P.underlying t = some (.slice e)) (he : P.underlying e = some (.struct #[f0, f1, f2, f3]))
    (hone : oneCellFields P #[f0, f1, f2, f3] = true) (hC : P.cellsOf e = 4) (e0 : P.underlying f0.type = some (.float .f32)) (e1 : P.underlying f1.type = some (.float .f32)) (e2 : P.underlying f2.type = some (.float .f32)) (e3 : P.underlying f3.type = some (.float .f32))
    (h : DataW.trod enc P w base spare held fuel t cs = some x) : ∃ A len cap L, cs = [.slice A len cap] ∧ len ≤ maxLen ∧ LArg w A len L := by
  rcases open_slice ht h with ⟨rfl, _⟩ | ⟨a, len, cap, m, n, D, Pl, rfl, hb, hl, hm, hmm, _, hx⟩
  · exact ⟨none, 0, 0, fun _ _ => 0, rfl, by unfold maxLen; omega, fun i hi => absurd hi (Nat.not_lt_zero _)⟩
  · have hle : len ≤ m := by rw [hmm]; split <;> omega
    obtain ⟨F, hF⟩ := choose_lt (α := Nat → Nat) (n := m) (p := fun i b => ∀ j, j < 4 → w.cell? (a.add (i * 4 + j)) = some (.float .f32 (b j)) ∧ b j < 2 ^ 32) (fun i hi => by
      obtain ⟨cs', h1, h2⟩ := hx i hi
      rw [hC] at h1
      obtain ⟨_, hcl, hat⟩ := World.cells?_some h1
      match cs', hcl with
      | [c0, c1, c2, c3], _ =>
        obtain ⟨ys, n', hn', hy, hlen, hyl, hf⟩ := DataW.trod_struct he h2
        obtain ⟨o0, k0⟩ := hone_of hone 0 f0 rfl
        obtain ⟨o1, k1⟩ := hone_of hone 1 f1 rfl
        obtain ⟨o2, k2⟩ := hone_of hone 2 f2 rfl
        obtain ⟨o3, k3⟩ := hone_of hone 3 f3 rfl
        match ys, hyl with
        | [y0, y1, y2, y3], _ =>
          have g0 := hf 0 f0 rfl
          have g1 := hf 1 f1 rfl
          have g2 := hf 2 f2 rfl
          have g3 := hf 3 f3 rfl
          rw [o0, k0] at g0; rw [o1, k1] at g1; rw [o2, k2] at g2; rw [o3, k3] at g3
          obtain ⟨b0, hb0, _, w0⟩ := trod_float e0 g0
          obtain ⟨b1, hb1, _, w1⟩ := trod_float e1 g1
          obtain ⟨b2, hb2, _, w2⟩ := trod_float e2 g2
          obtain ⟨b3, hb3, _, w3⟩ := trod_float e3 g3
          simp at hb0 hb1 hb2 hb3
          subst hb0 hb1 hb2 hb3
          refine ⟨fun j => if j = 0 then b0 else if j = 1 then b1 else if j = 2 then b2 else b3, fun j hj => ?_⟩
          have hcell := hat j hj
          rw [add_of_add] at hcell
          have hj' : j = 0 ∨ j = 1 ∨ j = 2 ∨ j = 3 := by omega
          rcases hj' with rfl | rfl | rfl | rfl
          · exact ⟨hcell, wf32 w0⟩
          · exact ⟨hcell, wf32 w1⟩
          · exact ⟨hcell, wf32 w2⟩
          · exact ⟨hcell, wf32 w3⟩)
    refine ⟨some a, len, cap, F, rfl, by omega, fun i hi => ?_⟩
    have h1 := hF i (by omega)
    have h2 := lt_of_cell (h1 0 (by omega)).1
    rw [addb] at h2
    obtain ⟨b, off, spot⟩ := a
    have hspot : spot = none := by simpa [Addr.add] using World.cell?_spot (hF 0 (by omega) 0 (by omega)).1
    subst hspot
    exact ⟨b, off, rfl, h2, fun j hj => ⟨by have := (h1 j hj).1; rwa [add_plain, ← Nat.add_assoc] at this, (h1 j hj).2⟩⟩
/-- A ground that came in: layers, two floats. -/
theorem open_ground {r : Reach} {b0 : Nat} {t e : TypeId} {g0 g1 g2 f0 f1 f2 f3 : Field} {v : Value} {d : DataW H} {p : List MemPlace} (hs : P.underlying t = some (.struct #[g0, g1, g2])) (hone : oneCellFields P #[g0, g1, g2] = true) (hC : P.cellsOf t = 3)
    (ht : P.underlying g0.type = some (.slice e)) (he : P.underlying e = some (.struct #[f0, f1, f2, f3]))
    (hone' : oneCellFields P #[f0, f1, f2, f3] = true) (hC' : P.cellsOf e = 4) (e0 : P.underlying f0.type = some (.float .f32)) (e1 : P.underlying f1.type = some (.float .f32)) (e2 : P.underlying f2.type = some (.float .f32)) (e3 : P.underlying f3.type = some (.float .f32))
    (u1 : P.underlying g1.type = some (.float .f32)) (u2 : P.underlying g2.type = some (.float .f32))
    (hv : Value.okWide P w r b0 t v) (h : DataW.Trod enc P w base spare held t v d p) :
    ∃ A len cap L s q, v = .agg #[.slice A len cap, .float .f32 s, .float .f32 q] ∧ len ≤ maxLen ∧ LArg w A len L ∧ s < 2 ^ 32 ∧ q < 2 ^ 32 := by
  obtain ⟨v0, v1, v2, y0, y1, y2, n, rfl, rfl, rfl, h0, h1, h2⟩ := open_agg3 hs hone hC hv h
  obtain ⟨A, len, cap, L, hcs, hl, hL⟩ := layers_of ht he hone' hC' e0 e1 e2 e3 h0
  obtain ⟨s, hs1, _, ws⟩ := trod_float u1 h1
  obtain ⟨q, hq1, _, wq⟩ := trod_float u2 h2
  simp at hcs hs1 hq1
  subst hcs hs1 hq1
  exact ⟨A, len, cap, L, s, q, rfl, hl, hL, wf32 ws, wf32 wq⟩
/-- The row's post where nothing that was there has turned: arguments that lead into memory. -/
theorem post_of_below2 {f : Func} {s : ChangeSpec} {apart fresh handsOn : Bool} {W W' : World} {args : Array Value} {v : Value} {ds gs : List (DataW H)} {before pa pv : List MemPlace}
    (hW : DataW.Whole enc P f.params.toList s.vars apart W args.toList ds gs before)
    (hres : ∀ (b : Nat) (sp : Nat → Bool) (hd : Bool), DataW.TrodAll enc P W' b sp hd f.resultTypes.toList (v.resultList f.resultTypes.size) (s.fn H (ds ++ gs)).results [])
    (hargs : DataW.TrodAll enc P W' 0 (fun b => decide (b < W.heap.size)) true f.params.toList args.toList (s.fn H (ds ++ gs)).args pa)
    (hvars : ∀ sp : Nat → Bool, (∀ p ∈ before, sp p.block = true) → DataW.TrodVars enc P W' sp s.vars (s.fn H (ds ++ gs)).vars pv)
    (hb : Below W.heap.size W W') :
    s.post enc P f apart fresh handsOn false W args v W' := by
  have hold : ∀ p ∈ before, (fun b => decide (b < W.heap.size)) p.block = true := fun p hp => by simpa using hW.lt p hp
  exact ⟨ds, gs, before, [], pa, pv, hW, hres _ _ _, hargs, hvars _ hold, hb.frame _, fun h => by cases h⟩
end
end Go.Proofs.Ytocclddnaaaohaa.Fl
