/- Lists of the call's own: compared, marked, held; grounds marked. No condition. -/
import Derived.Test.YtmomgaiondjinaaDep
namespace Go.Proofs.Ytmomgaiondjinaa
open Go.RowKit Go.Proofs.Ytmomgaiondjinaa.Fl
/-- A slice in a block from lo on, below hi. -/
def FIn (w : World) (lo hi : Nat) (A : Option Addr) (n : Nat) (X : Nat → Nat) : Prop := 0 < n → ∃ g, A = some ⟨g, 0, none⟩ ∧ lo ≤ g ∧ g < hi ∧ g < w.heap.size ∧ Row w g n X
def FInE (w : World) (lo hi : Nat) (A : Option Addr) (n : Nat) (E : Nat → Nat) : Prop := ∃ X, FIn w lo hi A n X ∧ ∀ i, i < n → nz .f32 (X i) = E i
/-- Only blocks from lo on, below hi, have turned. -/
structure OnlyIn (lo hi : Nat) (w w' : World) : Prop where
  os : w'.os = w.os
  tape : w'.tape = w.tape
  output : w'.output = w.output
  size : w.heap.size ≤ w'.heap.size
  block : ∀ b, b < w.heap.size → (b < lo ∨ hi ≤ b) → w'.heap[b]? = w.heap[b]?
theorem FOwnE.in_ {w : World} {lo : Nat} {A : Option Addr} {n : Nat} {E : Nat → Nat} (h : FOwnE w lo A n E) : FInE w lo w.heap.size A n E := by
  obtain ⟨X, h1, h2⟩ := h
  exact ⟨X, fun hn => by obtain ⟨g, e, hl, hlt, hr⟩ := h1 hn; exact ⟨g, e, hl, hlt, hlt, hr⟩, h2⟩
theorem FIn.below {w w' : World} {lo hi : Nat} {A : Option Addr} {n : Nat} {X : Nat → Nat} (h : FIn w lo hi A n X) (hb : Below w.heap.size w w') : FIn w' lo hi A n X := fun hn => by
  obtain ⟨g, e, hl, hh, hlt, hr⟩ := h hn
  exact ⟨g, e, hl, hh, Nat.lt_of_lt_of_le hlt hb.size, hr.of_block (hb.block g hlt)⟩
theorem FInE.below {w w' : World} {lo hi : Nat} {A : Option Addr} {n : Nat} {E : Nat → Nat} (h : FInE w lo hi A n E) (hb : Below w.heap.size w w') : FInE w' lo hi A n E := by
  obtain ⟨X, h1, h2⟩ := h; exact ⟨X, h1.below hb, h2⟩
theorem FIn.only {w w' : World} {lo hi l h : Nat} {A : Option Addr} {n : Nat} {X : Nat → Nat} (f : FIn w l h A n X) (k : OnlyIn lo hi w w') (hd : h ≤ lo ∨ hi ≤ l) : FIn w' l h A n X := fun hn => by
  obtain ⟨g, e, hl, hh, hlt, hr⟩ := f hn
  exact ⟨g, e, hl, hh, Nat.lt_of_lt_of_le hlt k.size, hr.of_block (k.block g hlt (by omega))⟩
theorem FInE.only {w w' : World} {lo hi l h : Nat} {A : Option Addr} {n : Nat} {E : Nat → Nat} (f : FInE w l h A n E) (k : OnlyIn lo hi w w') (hd : h ≤ lo ∨ hi ≤ l) : FInE w' l h A n E := by
  obtain ⟨X, h1, h2⟩ := f; exact ⟨X, h1.only k hd, h2⟩
theorem Fl.GBox.only {w w' : World} {lo hi b : Nat} {A : Option Addr} {n c s q : Nat} (f : GBox w b A n c s q) (k : OnlyIn lo hi w w') (hd : b < lo ∨ hi ≤ b) : GBox w' b A n c s q := by
  have hb := k.block b f.lt hd
  exact ⟨(World.cell?_of_block (a := ⟨b, 0, none⟩) hb).trans f.c0, (World.cell?_of_block (a := ⟨b, 1, none⟩) hb).trans f.c1, (World.cell?_of_block (a := ⟨b, 2, none⟩) hb).trans f.c2, Nat.lt_of_lt_of_le f.lt k.size⟩
theorem below_only {lo hi : Nat} {a b b' c : World} (h : Below a.heap.size a b) (k : OnlyIn lo hi b' c) (hl : a.heap.size ≤ lo) (e1 : b'.os = b.os) (e2 : b'.tape = b.tape) (e3 : b'.output = b.output) (e4 : b'.heap = b.heap) : Below a.heap.size a c :=
  ⟨k.os.trans (e1.trans h.os), k.tape.trans (e2.trans h.tape), k.output.trans (e3.trans h.output), Nat.le_trans h.size (by rw [← e4]; exact k.size), fun i hi' => (k.block i (by rw [e4]; exact Nat.lt_of_lt_of_le hi' h.size) (.inl (Nat.lt_of_lt_of_le hi' hl))).trans (by rw [e4]; exact h.block i hi')⟩
theorem only_self {lo hi : Nat} {b b' c : World} (k : OnlyIn lo hi b' c) (e1 : b'.os = b.os) (e2 : b'.tape = b.tape) (e3 : b'.output = b.output) (e4 : b'.heap = b.heap) : OnlyIn lo hi b c :=
  ⟨k.os.trans e1, k.tape.trans e2, k.output.trans e3, by rw [← e4]; exact k.size, fun i h1 h2 => by rw [← e4]; exact k.block i (by rw [e4]; exact h1) h2⟩
theorem FIn.arg {w : World} {lo hi : Nat} {A : Option Addr} {n : Nat} {X : Nat → Nat} (h : FIn w lo hi A n X) : FArg w A n X := fun i hi => by
  obtain ⟨g, e, _, _, hlt, hr⟩ := h (by omega)
  exact ⟨⟨g, 0, none⟩, e, hlt, by rw [plain_add]; exact hr.cell i hi, hr.bd i hi⟩
theorem eqF_E (A B : Option Addr) (len ca cb lo hi lo' hi' : Nat) (E : Nat → Nat) (w : World) (hl : len ≤ 1048576) (hg : FInE w lo hi A len E) (hh : FInE w lo' hi' B len E) :
    Calls Try.prog 23 #[.slice A len ca, .slice B len cb] w fun e w' => e = .returned (.bool true) ∧ ∃ n, w' = w.drewN n := by
  obtain ⟨X, h1, h2⟩ := hg
  obtain ⟨Y, h3, h4⟩ := hh
  exact eqF_any A B len ca cb X Y w hl h1.arg h3.arg fun i hi => by rw [h2 i hi, h4 i hi]
theorem markF_E (A : Option Addr) (len cap k lo hi : Nat) (E : Nat → Nat) (w : World) (hl : len ≤ 1048576) (hk : k ≤ 16777216) (ha : FInE w lo hi A len E) :
    Calls Try.prog 28 #[.slice A len cap, .int .i64 k] w fun e w' => e = .returned (.int .i64 (k + len : Nat)) ∧ OnlyIn lo hi w w' ∧ FIn w' lo hi A len (mkW k) := by
  obtain ⟨X, h1, _⟩ := ha
  have ho : FOwn w lo A len X := fun hn => by obtain ⟨g, e, hl, _, hlt, hr⟩ := h1 hn; exact ⟨g, e, hl, hlt, hr⟩
  refine (markF_any A len cap k lo X w hl hk ho).mono ?_
  rintro e w' ⟨rfl, go, hgo, hgr, hc⟩
  refine ⟨rfl, ⟨hgr.os, hgr.tape, hgr.output, hgr.size, fun b hb hd => hgr.block b hb (fun e => ?_)⟩, fun hn => ?_⟩
  · obtain ⟨hp, hA⟩ := hgo b e.symm
    obtain ⟨g, e2, hl2, hh2, _, _⟩ := h1 hp
    rw [hA] at e2; injection e2 with e2; injection e2 with e2
    omega
  · obtain ⟨g, e2, hl2, hh2, hlt, hr⟩ := h1 hn
    have hlt' := Nat.lt_of_lt_of_le hlt hgr.size
    exact ⟨g, e2, hl2, hh2, hlt', hc hn g e2⟩
theorem heldF_E (A : Option Addr) (len cap k lo hi : Nat) (w : World) (hl : len ≤ 1048576) (hk : k ≤ 16777216) (ha : FIn w lo hi A len (mkW k)) :
    Calls Try.prog 29 #[.slice A len cap, .int .i64 k] w fun e w' => e = .returned (.int .i64 (k + len : Nat)) ∧ w = w' := heldF_any A len cap k w hl hk ha.arg
theorem markG_any (g len cap k lo hi s q : Nat) (L : Nat → Nat → Nat) (w : World) (hl : len ≤ 1048576) (hk : k ≤ 16777216) (h1 : lo ≤ g) (h2 : g < hi) (hlt : g < w.heap.size) (hr : LRow w g len L) :
    Calls Try.prog 49 #[.agg #[.slice (some ⟨g, 0, none⟩) len cap, .float .f32 s, .float .f32 q], .int .i64 k] w fun e w' => e = .returned (.int .i64 (k + 4 * len : Nat)) ∧ OnlyIn lo hi w w' := by
  have hst := below_alloc1 w (.cells #[.slice (some ⟨g, 0, none⟩) len cap, .float .f32 s, .float .f32 q] 42)
  have hr' := (hr.own h1 hlt).below hst
  go_enter Try.func49, Try.ntmps49
  go_wp2_with fail
  refine (markL_any (some ⟨g, 0, none⟩) len cap k lo L _ hl hk hr').mono ?_
  rintro e w' ⟨rfl, go, hgo, hgr, hc⟩
  have hO : OnlyIn lo hi w w' := by
    refine ⟨hgr.os.trans hst.os, hgr.tape.trans hst.tape, hgr.output.trans hst.output, Nat.le_trans hst.size hgr.size, fun b hb hd => (hgr.block b (Nat.lt_of_lt_of_le hb hst.size) (fun e => ?_)).trans (hst.block b hb)⟩
    obtain ⟨_, hA⟩ := hgo b e.symm
    injection hA with hA; injection hA with hA
    omega
  clear hgr hc hgo hst hr'
  go_wp2
  go_ret
  exact ⟨rfl, hO⟩
/-- A row of layers that lies there. -/
structure LBlk (w : World) (g len : Nat) (L : Nat → Nat → Nat) : Prop where
  lt : g < w.heap.size
  row : LRow w g len L
theorem LBlk.below {w w' : World} {g len : Nat} {L : Nat → Nat → Nat} (h : LBlk w g len L) (hb : Below w.heap.size w w') : LBlk w' g len L := ⟨Nat.lt_of_lt_of_le h.lt hb.size, h.row.of_block (hb.block g h.lt)⟩
theorem size_self {b b' c : World} (k : Below b'.heap.size b' c) (e4 : b'.heap = b.heap) : b.heap.size ≤ c.heap.size := by rw [← e4]; exact k.size
theorem FIn.drewN {w : World} {lo hi : Nat} {A : Option Addr} {n : Nat} {X : Nat → Nat} (h : FIn w lo hi A n X) (m : Nat) : FIn (w.drewN m) lo hi A n X := fun hn => by
  obtain ⟨g, e, hl, hh, hlt, hr⟩ := h hn
  exact ⟨g, e, hl, hh, hlt, hr.1, hr.2, hr.3⟩
theorem FInE.drewN {w : World} {lo hi : Nat} {A : Option Addr} {n : Nat} {E : Nat → Nat} (h : FInE w lo hi A n E) (m : Nat) : FInE (w.drewN m) lo hi A n E := by
  obtain ⟨X, h1, h2⟩ := h; exact ⟨X, h1.drewN m, h2⟩
theorem FIn.E {w : World} {lo hi : Nat} {A : Option Addr} {n : Nat} {X : Nat → Nat} (h : FIn w lo hi A n X) : FInE w lo hi A n (fun i => nz .f32 (X i)) := ⟨X, h, fun _ _ => rfl⟩
end Go.Proofs.Ytmomgaiondjinaa
