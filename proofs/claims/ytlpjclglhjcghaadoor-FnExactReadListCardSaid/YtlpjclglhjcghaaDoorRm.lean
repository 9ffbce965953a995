/- Lists of integers of the call's own: marked, held; what ReadList returns. No condition. -/
import Derived.Test.YtlpjclglhjcghaaDoorRl
namespace Go.Proofs.YtlpjclglhjcghaaDoor
open Go Go.RowKit Go.Lib

/-- A row of integers. -/
structure RowI (w : World) (g n : Nat) (V : Nat → Int) : Prop where
  cell : ∀ i, i < n → w.cell? ⟨g, i, none⟩ = some (.int .i64 (V i))
  frz : ∀ i, w.frozen? ⟨g, i, none⟩ = false
  bd : ∀ i, i < n → I64 (V i)
theorem RowI.of_block {w w' : World} {g n : Nat} {V : Nat → Int} (h : RowI w g n V) (hb : w'.heap[g]? = w.heap[g]?) : RowI w' g n V :=
  ⟨fun i hi => (World.cell?_of_block (a := ⟨g, i, none⟩) hb).trans (h.cell i hi), fun i => (by rw [← h.frz i]; simp only [World.frozen?, hb]), h.bd⟩
/-- A slice in a block from lo on, below hi. -/
def IIn (w : World) (lo hi : Nat) (A : Option Addr) (n : Nat) (V : Nat → Int) : Prop := 0 < n → ∃ g, A = some ⟨g, 0, none⟩ ∧ lo ≤ g ∧ g < hi ∧ g < w.heap.size ∧ RowI w g n V
theorem IIn.below {w w' : World} {lo hi : Nat} {A : Option Addr} {n : Nat} {V : Nat → Int} (h : IIn w lo hi A n V) (hb : Below w.heap.size w w') : IIn w' lo hi A n V := fun hn => by
  obtain ⟨g, e, hl, hh, hlt, hr⟩ := h hn
  exact ⟨g, e, hl, hh, Nat.lt_of_lt_of_le hlt hb.size, hr.of_block (hb.block g hlt)⟩
theorem IIn.grown {w w' : World} {lo hi : Nat} {A : Option Addr} {n : Nat} {V : Nat → Int} {go : Option Nat} (h : IIn w lo hi A n V) (hg : w.grownBy w' go) (hd : ∀ g, go = some g → hi ≤ g) : IIn w' lo hi A n V := fun hn => by
  obtain ⟨g, e, hl, hh, hlt, hr⟩ := h hn
  refine ⟨g, e, hl, hh, Nat.lt_of_lt_of_le hlt hg.size, hr.of_block (hg.block g hlt (fun e => ?_))⟩
  have := hd g (by first | exact e.symm | exact e); omega
theorem IIn.arg {w : World} {lo hi : Nat} {A : Option Addr} {n : Nat} {V : Nat → Int} (h : IIn w lo hi A n V) : IArg w A n V := fun i hi => by
  obtain ⟨g, e, _, _, hlt, hr⟩ := h (by omega)
  exact ⟨⟨g, 0, none⟩, e, hlt, by rw [add_plain0]; exact hr.cell i hi, hr.bd i hi⟩
theorem IIn.drewN {w : World} {lo hi : Nat} {A : Option Addr} {n : Nat} {V : Nat → Int} (h : IIn w lo hi A n V) (m : Nat) : IIn (w.drewN m) lo hi A n V := fun hl => by
  obtain ⟨g, e, h1, h2, hlt, hr⟩ := h hl
  exact ⟨g, e, h1, h2, hlt, hr.1, hr.2, hr.3⟩
theorem IO.in_ {w : World} {B : Nat} {L : List Int} {A : Option Addr} {c : Nat} (h : IO w B (.slice A L.length c) L) (hL : ∀ x ∈ L, I64 x) : IIn w B w.heap.size A L.length (fun i => L.getD i 0) := fun hn => by
  obtain ⟨g, c', hv, hlo, hlt⟩ := World.ownsRow.form h hn
  injection hv with h1 h2 h3
  subst h1
  refine ⟨g, rfl, hlo, hlt, hlt, fun i hi => ?_, fun i => World.ownsRow.frozenAt h i, fun i hi => ?_⟩
  · rw [World.ownsRow.cellAt h i (by omega)]
    simp [hi]
  · rw [List.getD_eq_getElem?_getD, List.getElem?_eq_getElem hi]
    exact hL _ (List.getElem_mem _)
theorem mapM_all {f : List UInt8 → Option Int} {Q : Int → Prop} (hQ : ∀ p x, f p = some x → Q x) : ∀ (P : List (List UInt8)) (L : List Int), P.mapM f = some L → ∀ x ∈ L, Q x
  | [], L, h, x, hx => by
    simp at h; subst h; cases hx
  | p :: P, L, h, x, hx => by
    rw [List.mapM_cons] at h
    cases hp : f p with
    | none => rw [hp] at h; cases h
    | some y =>
      cases hP : P.mapM f with
      | none => rw [hp, hP] at h; cases h
      | some M =>
        rw [hp, hP] at h
        injection h with h
        subst h
        rcases List.mem_cons.1 hx with rfl | hx
        · exact hQ _ _ hp
        · exact mapM_all hQ P M hP x hx
theorem rdD_ok64 (p : List UInt8) (x : Int) (h : rdD p = some x) : I64 x := by
  unfold rdD at h
  split at h
  · rename_i h1
    injection h with h
    subst h
    have := of_decide_eq_true h1.1
    exact ⟨by omega, by omega⟩
  · cases h
theorem mapM_len {f : List UInt8 → Option Int} : ∀ (P : List (List UInt8)) (L : List Int), P.mapM f = some L → L.length = P.length
  | [], L, h => by simp at h; subst h; rfl
  | p :: P, L, h => by
    rw [List.mapM_cons] at h
    cases hp : f p with
    | none => rw [hp] at h; cases h
    | some y =>
      cases hP : P.mapM f with
      | none => rw [hp, hP] at h; cases h
      | some M =>
        rw [hp, hP] at h
        injection h with h
        subst h
        simp [mapM_len P M hP]
theorem rl_all (l : List UInt8) : (∀ x ∈ (rl l).getD [], I64 x) ∧ ((rl l).getD []).length ≤ 64 := by
  unfold rl
  split
  · exact ⟨fun x hx => (by cases hx), by simp⟩
  · split
    · rename_i h64
      cases h : (parts l).mapM rdD with
      | none => exact ⟨fun x hx => (by cases hx), by simp⟩
      | some L =>
        refine ⟨mapM_all rdD_ok64 _ _ h, ?_⟩
        have := mapM_len _ _ h
        show L.length ≤ 64
        omega
    · exact ⟨fun x hx => (by cases hx), by simp⟩
/-- What ReadList returns, as a slice. -/
def RetI (n : Nat) (V : Nat → Int) (b : Bool) (w : World) (e : Ending) (w' : World) : Prop := ∃ A c, e = .returned (.tuple #[.slice A n c, .bool b]) ∧ Hid (IIn w' w.heap.size w'.heap.size A n V) ∧ Below w.heap.size w w'
theorem ret_in {l : List UInt8} {w : World} {f : FuncId} {args : Array Value} (h : Calls Tryd.prog f args w (RetL (rl l) w)) : Calls Tryd.prog f args w (RetI ((rl l).getD []).length (fun i => ((rl l).getD []).getD i 0) (rl l).isSome w) := by
  refine h.mono fun e w' ⟨v, he, hv, hb⟩ => ?_
  obtain ⟨A, c, e2⟩ := IO.shape hv.out
  have hv2 := hv.out
  rw [e2] at hv2
  exact ⟨A, c, by rw [he, e2], IO.in_ hv2 (rl_all l).1, hb⟩
theorem specReadList (s : ByteArray) (w : World) (hs : s.size ≤ 1048576) : Calls Tryd.prog 11 #[.string s] w (RetL (rl s.data.toList) w) := by
  go_enter Tryd.func11, Tryd.ntmps11
  go_wp2_with (first | (go_at_call 38; refine (specNumbers s _ hs).mono ?_; rintro e w1 ⟨v, rfl, HO, B1⟩) | go_in)
  go_ret2
  exact ⟨v, rfl, HO, B1⟩
theorem implReadList (s : ByteArray) (w : World) (hs : s.size ≤ 1048576) (hF : Full w) : Calls Tryd.prog 12 #[.string s] w (RetL (rl s.data.toList) w) := by
  have HF := Lib.hid hF
  clear hF
  go_enter Tryd.func12, Tryd.ntmps12
  go_wp2_with (first | (go_at_call 39; refine (implTexts s _ hs HF.out).mono ?_; rintro e w1 ⟨v, rfl, HO, B1⟩) | go_in)
  go_ret2
  exact ⟨v, rfl, HO, B1⟩

/-- Only the row g has turned, since w. -/
structure MarksI (w wr : World) (g len i k : Nat) : Prop where
  there : ∀ j, j < len → ∃ u, wr.cell? ⟨g, j, none⟩ = some u
  vals : ∀ j, j < i → wr.cell? ⟨g, j, none⟩ = some (.int .i64 ((k : Int) + (j : Int)))
  frz : ∀ j, wr.frozen? ⟨g, j, none⟩ = false
  only : w.grownBy wr (some g)
theorem only_setCell {a w : World} {g : Nat} (h : a.grownBy w (some g)) {p : Addr} (hp : p.block = g) (u : Value) : a.grownBy (w.setCell p u) (some g) :=
  ⟨h.os, h.tape, h.output, by simpa [World.setCell] using h.size, fun i hi hne => (Below.heap_setCell w p u i (by
    rintro rfl
    exact hne (by rw [hp]))).trans (h.block i hi hne)⟩
theorem MarksI.step {w wr : World} {g len i k : Nat} (h : MarksI w wr g len i k) (hi : i < len) : MarksI w (wr.setCell ⟨g, i, none⟩ (.int .i64 ((k : Int) + (i : Int)))) g len (i + 1) k := by
  obtain ⟨u, hu⟩ := h.there i hi
  have ne : ∀ j, j ≠ i → (⟨g, i, none⟩ : Addr) ≠ ⟨g, j, none⟩ := fun j hj e => hj (by injection e with _ e2; exact e2.symm)
  refine ⟨fun j hj => ?_, fun j hj => ?_, fun j => by rw [World.frozen?_setCell]; exact h.frz j, only_setCell h.only rfl _⟩
  · by_cases e : j = i
    · subst e; exact ⟨_, World.cell?_setCell_same _ _ _ hu⟩
    · rw [World.cell?_setCell_other _ _ _ _ (ne j e)]; exact h.there j hj
  · by_cases e : j = i
    · subst e; exact World.cell?_setCell_same _ _ _ hu
    · rw [World.cell?_setCell_other _ _ _ _ (ne j e)]; exact h.vals j (by omega)
/-- The marks, as integers. -/
def mkI (k : Nat) (j : Nat) : Int := (k : Int) + (j : Int)
/-- A marked slice. -/
def MarkI (lo hi : Nat) (A : Option Addr) (len k : Nat) (w : World) (e : Ending) (w' : World) : Prop :=
  e = .returned (.int .i64 ((k : Int) + (len : Int))) ∧ ∃ go : Option Nat, (∀ g, go = some g → lo ≤ g) ∧ w.grownBy w' go ∧ Hid (IIn w' lo hi A len (mkI k))
set_option maxRecDepth 100000 in
theorem markI_any (A : Option Addr) (len cap k : Nat) (lo hi : Nat) (V : Nat → Int) (w : World) (hl : len ≤ 1048576) (hk : k ≤ 16777216) (ha : IIn w lo hi A len V) :
    Calls Tryd.prog 14 #[.slice A len cap, .int .i64 k] w (MarkI lo hi A len k w) := by
  have hlz : (len : Int) ≤ 1048576 := by omega
  have hkz : (k : Int) ≤ 16777216 := by omega
  by_cases h0 : 0 < len
  · obtain ⟨g, rfl, hlo, hhi, hlt, hr⟩ := ha h0
    have HS : Hid (MarksI w w g len 0 k) := ⟨fun j hj => ⟨_, hr.cell j hj⟩, fun j hj => absurd hj (Nat.not_lt_zero _), hr.frz, World.grownBy.refl w _⟩
    clear hr ha
    go_enter Tryd.func14, Tryd.ntmps14
    go_wp2
    go_loopw [1, 5] (fun c i wr => ∃ j : Nat, j ≤ len ∧ i = .int .i64 j ∧ c = .int .i64 ((k : Int) + (j : Int)) ∧ Hid (MarksI w wr g len j k)) (fun _ i _ => len - (RowKit.intOf i).toNat)
    case atStart => exact ⟨0, Nat.zero_le _, rfl, by simp, HS⟩
    case round =>
      obtain ⟨j, hj, rfl, rfl, hM⟩ := hrel
      by_cases hjl : j < len
      · obtain ⟨u, hu⟩ := hM.out.there j hjl
        have hfz := hM.out.frz j
        have HN := Lib.hid (hM.out.step hjl)
        go_wp2
        go_roundw
        case rel => exact ⟨j + 1, by omega, by go_num, by go_num, HN⟩
        case measure => simp [RowKit.intOf]; omega
      · obtain rfl : j = len := by omega
        go_wp2
        go_ret
        exact ⟨rfl, some g, (fun g' e => by injection e with e; subst e; exact hlo), hM.out.only, fun _ => ⟨g, rfl, hlo, hhi, Nat.lt_of_lt_of_le hlt hM.out.only.size, hM.out.vals, hM.out.frz, fun i hi => ⟨by unfold mkI; omega, by unfold mkI; omega⟩⟩⟩
  · obtain rfl : len = 0 := by omega
    clear ha
    go_enter Tryd.func14, Tryd.ntmps14
    go_wp2
    go_loopw [1, 5] (fun c i wr => i = .int .i64 0 ∧ c = .int .i64 (k : Int) ∧ wr = w) (fun _ _ _ => 0)
    case atStart => exact ⟨rfl, rfl, rfl⟩
    case round =>
      obtain ⟨rfl, rfl, rfl⟩ := hrel
      go_wp2
      go_ret
      exact ⟨by simp, none, (fun g' e => by cases e), World.grownBy.refl _ _, fun h => absurd h (Nat.lt_irrefl _)⟩
set_option maxRecDepth 100000 in
theorem heldI_any (A : Option Addr) (len cap k : Nat) (w : World) (hl : len ≤ 1048576) (hk : k ≤ 16777216) (ha : IArg w A len (mkI k)) :
    Calls Tryd.prog 15 #[.slice A len cap, .int .i64 k] w fun e w' => e = .returned (.int .i64 ((k : Int) + (len : Int))) ∧ w' = w := by
  have hlz : (len : Int) ≤ 1048576 := by omega
  have hkz : (k : Int) ≤ 16777216 := by omega
  have HA := Lib.hid ha
  clear ha
  go_enter Tryd.func15, Tryd.ntmps15
  go_wp2
  go_loop [1, 5] (fun c i => ∃ j : Nat, j ≤ len ∧ i = .int .i64 j ∧ c = .int .i64 ((k : Int) + (j : Int))) (fun _ i => len - (RowKit.intOf i).toNat)
  case atStart => exact ⟨0, Nat.zero_le _, rfl, by simp⟩
  case round =>
    obtain ⟨j, hj, rfl, rfl⟩ := hrel
    by_cases hjl : j < len
    · obtain ⟨a, rfl, _, c1, _⟩ := HA.out j hjl
      unfold mkI at c1
      go_wp2
      go_round
      case rel => exact ⟨j + 1, by omega, by go_num, by go_num⟩
      case measure => simp [RowKit.intOf]; omega
    · obtain rfl : j = len := by omega
      go_wp2
      go_ret
      exact ⟨rfl, rfl⟩
end Go.Proofs.YtlpjclglhjcghaaDoor
