/- ReadComplex of both; lists of complex numbers of the call's own, compared, marked and held. No condition. -/
import Derived.Test.YtlpjclglhjcghaaDoorRt
import Derived.Test.YtlpjclglhjcghaaDoorRn
import Derived.Test.YtlpjclglhjcghaaDoorFt
import Derived.Laws.ComplexArith
namespace Go.Proofs.YtlpjclglhjcghaaDoor
open Go Go.RowKit Go.Lib

/-- A row of complex numbers. -/
structure RowC (w : World) (g n : Nat) (V : Nat → Nat × Nat) : Prop where
  cell : ∀ i, i < n → w.cell? ⟨g, i, none⟩ = some (.complex .f32 (V i).1 (V i).2)
  frz : ∀ i, w.frozen? ⟨g, i, none⟩ = false
theorem RowC.of_block {w w' : World} {g n : Nat} {V : Nat → Nat × Nat} (h : RowC w g n V) (hb : w'.heap[g]? = w.heap[g]?) : RowC w' g n V :=
  ⟨fun i hi => (World.cell?_of_block (a := ⟨g, i, none⟩) hb).trans (h.cell i hi), fun i => (by rw [← h.frz i]; simp only [World.frozen?, hb])⟩
/-- A slice of complex numbers that is read. -/
def CArg (w : World) (A : Option Addr) (n : Nat) (V : Nat → Nat × Nat) : Prop :=
  ∀ i, i < n → ∃ a : Addr, A = some a ∧ a.block < w.heap.size ∧ w.cell? (a.add i) = some (.complex .f32 (V i).1 (V i).2)
/-- A slice in a block from lo on, below hi. -/
def CIn (w : World) (lo hi : Nat) (A : Option Addr) (n : Nat) (V : Nat → Nat × Nat) : Prop := 0 < n → ∃ g, A = some ⟨g, 0, none⟩ ∧ lo ≤ g ∧ g < hi ∧ g < w.heap.size ∧ RowC w g n V
theorem CIn.below {w w' : World} {lo hi : Nat} {A : Option Addr} {n : Nat} {V : Nat → Nat × Nat} (h : CIn w lo hi A n V) (hb : Below w.heap.size w w') : CIn w' lo hi A n V := fun hn => by
  obtain ⟨g, e, hl, hh, hlt, hr⟩ := h hn
  exact ⟨g, e, hl, hh, Nat.lt_of_lt_of_le hlt hb.size, hr.of_block (hb.block g hlt)⟩
theorem CIn.grown {w w' : World} {lo hi : Nat} {A : Option Addr} {n : Nat} {V : Nat → Nat × Nat} {go : Option Nat} (h : CIn w lo hi A n V) (hg : w.grownBy w' go) (hd : ∀ g, go = some g → hi ≤ g) : CIn w' lo hi A n V := fun hn => by
  obtain ⟨g, e, hl, hh, hlt, hr⟩ := h hn
  refine ⟨g, e, hl, hh, Nat.lt_of_lt_of_le hlt hg.size, hr.of_block (hg.block g hlt (fun e => ?_))⟩
  have := hd g (by first | exact e.symm | exact e); omega
theorem CIn.arg {w : World} {lo hi : Nat} {A : Option Addr} {n : Nat} {V : Nat → Nat × Nat} (h : CIn w lo hi A n V) : CArg w A n V := fun i hi => by
  obtain ⟨g, e, _, _, hlt, hr⟩ := h (by omega)
  exact ⟨⟨g, 0, none⟩, e, hlt, by rw [add_plain0]; exact hr.cell i hi⟩
theorem CIn.drewN {w : World} {lo hi : Nat} {A : Option Addr} {n : Nat} {V : Nat → Nat × Nat} (h : CIn w lo hi A n V) (m : Nat) : CIn (w.drewN m) lo hi A n V := fun hl => by
  obtain ⟨g, e, h1, h2, hlt, hr⟩ := h hl
  exact ⟨g, e, h1, h2, hlt, hr.1, hr.2⟩
theorem OC.in_ {w : World} {B : Nat} {L : List (Nat × Nat)} {A : Option Addr} {c : Nat} (h : OC w B (.slice A L.length c) L) : CIn w B w.heap.size A L.length (fun i => L.getD i (0, 0)) := fun hn => by
  obtain ⟨g, c', hv, hlo, hlt⟩ := World.ownsRow.form h hn
  injection hv with h1 h2 h3
  subst h1
  refine ⟨g, rfl, hlo, hlt, hlt, fun i hi => ?_, fun i => World.ownsRow.frozenAt h i⟩
  rw [World.ownsRow.cellAt h i (by omega)]
  simp [hi, mkC]
/-- What ReadComplex returns, as a slice. -/
def RetCI (n : Nat) (V : Nat → Nat × Nat) (b : Bool) (w : World) (e : Ending) (w' : World) : Prop := ∃ A c, e = .returned (.tuple #[.slice A n c, .bool b]) ∧ Hid (CIn w' w.heap.size w'.heap.size A n V) ∧ Below w.heap.size w w'
theorem ret_inC {o : Option (List (Nat × Nat))} {w : World} {f : FuncId} {args : Array Value} (h : Calls Tryd.prog f args w (RetOC o w)) : Calls Tryd.prog f args w (RetCI (o.getD []).length (fun i => (o.getD []).getD i (0, 0)) o.isSome w) := by
  refine h.mono fun e w' ⟨v, he, hv, hb⟩ => ?_
  obtain ⟨A, c, e2⟩ := OC.shape hv.out
  have hv2 := hv.out
  rw [e2] at hv2
  exact ⟨A, c, by rw [he, e2], OC.in_ hv2, hb⟩
theorem specReadComplex (s : ByteArray) (w : World) (hs : s.size ≤ 1048576) : Calls Tryd.prog 21 #[.string s] w (RetOC (rlG rdC 256 s.data.toList) w) := by
  go_enter Tryd.func21, Tryd.ntmps21
  go_wp2_with (first | (go_at_call 44; refine (specCRead s _ hs).mono ?_; rintro e w1 ⟨v, rfl, HO, B1⟩) | go_in)
  go_ret2
  exact ⟨v, rfl, HO, B1⟩
theorem implReadComplex (s : ByteArray) (w : World) (hs : s.size ≤ 1048576) (hF : FullH w) : Calls Tryd.prog 22 #[.string s] w (RetOC (rlG rdC 256 s.data.toList) w) := by
  have HF := Lib.hid hF
  clear hF
  go_enter Tryd.func22, Tryd.ntmps22
  go_wp2_with (first | (go_at_call 45; refine (implTextsC s _ hs HF.out).mono ?_; rintro e w1 ⟨v, rfl, HO, B1⟩) | go_in)
  go_ret2
  exact ⟨v, rfl, HO, B1⟩

/-- Two complex numbers that are the same but for NaNs' bits: true. -/
theorem sameComplex_any (a b c d : Nat) (h1 : Fl.nz .f64 a = Fl.nz .f64 c) (h2 : Fl.nz .f64 b = Fl.nz .f64 d) (w : World) :
    Calls Tryd.prog 47 #[.complex .f64 a b, .complex .f64 c d] w fun e w' => e = .returned (.bool true) ∧ ∃ n, w' = w.drewN n := by
  have H1 := Lib.hid h1
  have H2 := Lib.hid h2
  clear h1 h2
  go_enter Tryd.func47, Tryd.ntmps47
  go_wp2_with (go_at_call 43; refine (sameFloat_any _ _ (by first | exact H1.out | exact H2.out) _).mono ?_; rintro e w1 ⟨rfl, n1, rfl⟩)
  go_ret
  exact ⟨rfl, _, rfl⟩
theorem upon_ccv {P : Program} {o : Oper} {a : Act} {w : World} {next : Act → World → Prop} {Q : Exit → Act → World → Prop} (src dst : TypeId) (x y : Nat) (hs : (P.underlying src).isSome = true) (hd : P.underlying dst = some (.complex .f64))
    (hK : ∀ u v n, Hid (Fl.nz .f64 u = Fl.fcv .f32 .f64 x) → Hid (Fl.nz .f64 v = Fl.fcv .f32 .f64 y) → next (a.put o.dst (.complex .f64 u v)) (w.drewN n)) : o.upon P a next Q (((convert src dst (.complex .f32 x y)).run P w).andThen fun v w' => Result.ok (Next.value v) w') := by
  obtain ⟨u, n, h1, h2, _⟩ := Fl.run_ff (P := P) w x
  obtain ⟨v, m, h3, h4, _⟩ := Fl.run_ff (P := P) (w.drewN n) y
  obtain ⟨U, hs'⟩ := Option.isSome_iff_exists.1 hs
  have hrun : (convert src dst (.complex .f32 x y)).run P w = .ok (.complex .f64 u v) (w.drewN (n + m)) := by
    cases U <;> simp [convert, run_underlying hs', run_underlying hd, Conv.complexToComplex, h1, h3]
  rw [hrun]
  exact hK u v (n + m) h2 h4
theorem two_same {x v1 v2 : Nat} (h1 : Hid (Fl.nz .f64 v1 = Fl.fcv .f32 .f64 x)) (h2 : Hid (Fl.nz .f64 v2 = Fl.fcv .f32 .f64 x)) : Fl.nz .f64 v1 = Fl.nz .f64 v2 := by rw [h1.out, h2.out]
set_option maxRecDepth 100000 in
theorem eqC_any (A B : Option Addr) (len ca cb : Nat) (V : Nat → Nat × Nat) (w : World) (hl : len ≤ 1048576) (hg : CArg w A len V) (hh : CArg w B len V) :
    Calls Tryd.prog 23 #[.slice A len ca, .slice B len cb] w fun e w' => e = .returned (.bool true) ∧ ∃ n, w' = w.drewN n := by
  have hlz : (len : Int) ≤ 1048576 := by omega
  have HG := Lib.hid hg
  have HH := Lib.hid hh
  clear hg hh
  go_enter Tryd.func23, Tryd.ntmps23
  go_wp2
  go_loopw [5] (fun i wr => ∃ k n : Nat, k ≤ len ∧ i = .int .i64 k ∧ wr = w.drewN n) (fun i _ => len - (RowKit.intOf i).toNat)
  case atStart => exact ⟨0, 0, Nat.zero_le _, rfl, rfl⟩
  case round =>
    obtain ⟨k, n, hk, rfl, rfl⟩ := hrel
    by_cases hlt : k < len
    · obtain ⟨a, rfl, _, c1⟩ := HG.out k hlt
      obtain ⟨b, rfl, _, c2⟩ := HH.out k hlt
      obtain ⟨x, hx⟩ : ∃ x, (V k).1 = x := ⟨_, rfl⟩
      obtain ⟨y, hy⟩ : ∃ y, (V k).2 = y := ⟨_, rfl⟩
      rw [hx, hy] at c1 c2
      clear hx hy
      have i1 : (0 : Int) ≤ (k : Int) := by omega
      have i2 : (k : Int) < (len : Int) := by omega
      go_wp2_with fail
      go_region_held (fun w' => w'.cell? (a.add k) = some (.complex .f32 x y) ∧ w'.cell? (b.add k) = some (.complex .f32 x y)) (go_keep) (first | (refine upon_ccv _ _ x y rfl Tryd.underlying59 ?_; intro u v m hu hv) | (go_at_call 47; refine (sameComplex_any _ _ _ _ (two_same (x := x) (by assumption) (by assumption)) (two_same (x := y) (by assumption) (by assumption)) _).mono ?_; rintro e w3 ⟨rfl, n3, rfl⟩))
      all_goals
        go_wp2
        go_roundw
        case rel => exact ⟨k + 1, _, by omega, by go_num, rfl⟩
        case measure => simp [RowKit.intOf]; omega
    · obtain rfl : k = len := by omega
      go_wp2
      go_ret
      exact ⟨rfl, _, rfl⟩
end Go.Proofs.YtlpjclglhjcghaaDoor
