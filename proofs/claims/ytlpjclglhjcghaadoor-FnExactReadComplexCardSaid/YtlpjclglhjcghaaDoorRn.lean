/- ReadNumbers of both; lists of numbers of the call's own, marked and held. No condition. -/
import Derived.Test.YtlpjclglhjcghaaDoorRs
import Derived.Test.YtlpjclglhjcghaaDoorList
namespace Go.Proofs.YtlpjclglhjcghaaDoor
open Go Go.RowKit Go.Lib

/-- A slice in a block from lo on, below hi. -/
def FIn (w : World) (lo hi : Nat) (A : Option Addr) (n : Nat) (V : Nat → Nat) : Prop := 0 < n → ∃ g, A = some ⟨g, 0, none⟩ ∧ lo ≤ g ∧ g < hi ∧ g < w.heap.size ∧ Fl.Row w g n V
theorem FIn.below {w w' : World} {lo hi : Nat} {A : Option Addr} {n : Nat} {V : Nat → Nat} (h : FIn w lo hi A n V) (hb : Below w.heap.size w w') : FIn w' lo hi A n V := fun hn => by
  obtain ⟨g, e, hl, hh, hlt, hr⟩ := h hn
  exact ⟨g, e, hl, hh, Nat.lt_of_lt_of_le hlt hb.size, hr.of_block (hb.block g hlt)⟩
theorem FIn.grown {w w' : World} {lo hi : Nat} {A : Option Addr} {n : Nat} {V : Nat → Nat} {go : Option Nat} (h : FIn w lo hi A n V) (hg : w.grownBy w' go) (hd : ∀ g, go = some g → hi ≤ g) : FIn w' lo hi A n V := fun hn => by
  obtain ⟨g, e, hl, hh, hlt, hr⟩ := h hn
  refine ⟨g, e, hl, hh, Nat.lt_of_lt_of_le hlt hg.size, hr.of_block (hg.block g hlt (fun e => ?_))⟩
  have := hd g (by first | exact e.symm | exact e); omega
theorem FIn.own {w : World} {lo hi : Nat} {A : Option Addr} {n : Nat} {V : Nat → Nat} (h : FIn w lo hi A n V) : Fl.FOwn w lo A n V := fun hn => by
  obtain ⟨g, e, hl, _, hlt, hr⟩ := h hn
  exact ⟨g, e, hl, hlt, hr⟩
theorem FIn.arg {w : World} {lo hi : Nat} {A : Option Addr} {n : Nat} {V : Nat → Nat} (h : FIn w lo hi A n V) : Fl.FArg w A n V := h.own.arg
theorem FIn.drewN {w : World} {lo hi : Nat} {A : Option Addr} {n : Nat} {V : Nat → Nat} (h : FIn w lo hi A n V) (m : Nat) : FIn (w.drewN m) lo hi A n V := fun hl => by
  obtain ⟨g, e, h1, h2, hlt, hr⟩ := h hl
  exact ⟨g, e, h1, h2, hlt, hr.1, hr.2, hr.3⟩
theorem OF.in_ {w : World} {B : Nat} {L : List Nat} {A : Option Addr} {c : Nat} (h : OF w B (.slice A L.length c) L) (hL : ∀ x ∈ L, x < 2 ^ 32) : FIn w B w.heap.size A L.length (fun i => L.getD i 0) := fun hn => by
  obtain ⟨g, c', hv, hlo, hlt⟩ := World.ownsRow.form h hn
  injection hv with h1 h2 h3
  subst h1
  refine ⟨g, rfl, hlo, hlt, hlt, fun i hi => ?_, fun i => World.ownsRow.frozenAt h i, fun i hi => ?_⟩
  · rw [World.ownsRow.cellAt h i (by omega)]
    simp [hi, mkF]
  · show L.getD i 0 < 2 ^ 32
    rw [List.getD_eq_getElem?_getD, List.getElem?_eq_getElem hi]
    exact hL _ (List.getElem_mem _)
/-- What ReadNumbers returns, as a slice. -/
def RetFI (n : Nat) (V : Nat → Nat) (b : Bool) (w : World) (e : Ending) (w' : World) : Prop := ∃ A c, e = .returned (.tuple #[.slice A n c, .bool b]) ∧ Hid (FIn w' w.heap.size w'.heap.size A n V) ∧ Below w.heap.size w w'
theorem ret_inF {o : Option (List Nat)} {w : World} {f : FuncId} {args : Array Value} (ho : ∀ x ∈ o.getD [], x < 2 ^ 32) (h : Calls Tryd.prog f args w (RetOF o w)) : Calls Tryd.prog f args w (RetFI (o.getD []).length (fun i => (o.getD []).getD i 0) o.isSome w) := by
  refine h.mono fun e w' ⟨v, he, hv, hb⟩ => ?_
  obtain ⟨A, c, e2⟩ := OF.shape hv.out
  have hv2 := hv.out
  rw [e2] at hv2
  exact ⟨A, c, by rw [he, e2], OF.in_ hv2 ho, hb⟩
theorem specReadNumbers (s : ByteArray) (w : World) (hs : s.size ≤ 1048576) : Calls Tryd.prog 16 #[.string s] w (RetOF (rlG rdH 256 s.data.toList) w) := by
  go_enter Tryd.func16, Tryd.ntmps16
  go_wp2_with (first | (go_at_call 40; refine (specNRead s _ hs).mono ?_; rintro e w1 ⟨v, rfl, HO, B1⟩) | go_in)
  go_ret2
  exact ⟨v, rfl, HO, B1⟩
theorem implReadNumbers (s : ByteArray) (w : World) (hs : s.size ≤ 1048576) (hF : FullH w) : Calls Tryd.prog 17 #[.string s] w (RetOF (rlG rdH 256 s.data.toList) w) := by
  have HF := Lib.hid hF
  clear hF
  go_enter Tryd.func17, Tryd.ntmps17
  go_wp2_with (first | (go_at_call 41; refine (implTextsF s _ hs HF.out).mono ?_; rintro e w1 ⟨v, rfl, HO, B1⟩) | go_in)
  go_ret2
  exact ⟨v, rfl, HO, B1⟩
/-- A marked slice. -/
def MarkFI (lo hi : Nat) (A : Option Addr) (len k : Nat) (w : World) (e : Ending) (w' : World) : Prop :=
  e = .returned (.int .i64 ((k : Int) + (len : Int))) ∧ ∃ go : Option Nat, (∀ g, go = some g → lo ≤ g) ∧ w.grownBy w' go ∧ Hid (FIn w' lo hi A len (mkW k))
theorem markF_in (A : Option Addr) (len cap k lo hi : Nat) (V : Nat → Nat) (w : World) (hl : len ≤ 1048576) (hk : k ≤ 16777216) (ha : FIn w lo hi A len V) :
    Calls Tryd.prog 19 #[.slice A len cap, .int .i64 k] w (MarkFI lo hi A len k w) := by
  refine (markF_any A len cap k lo V w hl hk ha.own).mono fun e w' ⟨he, go, h1, h2, h3⟩ => ⟨by rw [he]; simp, go, fun g hg => ?_, h2, fun hn => ?_⟩
  · obtain ⟨hn, hA⟩ := h1 g hg
    obtain ⟨g', e', hl', _⟩ := ha hn
    rw [hA] at e'
    injection e' with e'
    injection e' with e'
    omega
  · obtain ⟨g, e', hl', hh, hlt, _⟩ := ha hn
    exact ⟨g, e', hl', hh, Nat.lt_of_lt_of_le hlt h2.size, h3 hn g e'⟩
theorem heldF_in (A : Option Addr) (len cap k : Nat) (w : World) (hl : len ≤ 1048576) (hk : k ≤ 16777216) (ha : Fl.FArg w A len (mkW k)) :
    Calls Tryd.prog 20 #[.slice A len cap, .int .i64 k] w fun e w' => e = .returned (.int .i64 ((k : Int) + (len : Int))) ∧ w = w' :=
  (heldF_any A len cap k w hl hk ha).mono fun e w' h => ⟨by rw [h.1]; simp, h.2⟩
end Go.Proofs.YtlpjclglhjcghaaDoor
