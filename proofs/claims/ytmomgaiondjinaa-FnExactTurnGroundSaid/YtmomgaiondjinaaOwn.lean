/- Copies of layers by append: the reference's ground of its own, the program's clone. No condition. -/
import Derived.Test.YtmomgaiondjinaaVali
import Derived.Deep.AppendLies
import Derived.Deep.RegionHeldLaw
import Derived.Laws.OwnMore
import Derived.Lib.SliceRun
namespace Go.Proofs.Ytmomgaiondjinaa
open Go.RowKit Go.Proofs.Ytmomgaiondjinaa.Fl
/-- The cells of layers, one behind the other. -/
def flatL (n : Nat) (L : Nat → Nat → Nat) : List Value := (List.range (n * 4)).map fun c => .float .f32 (L (c / 4) (c % 4))
theorem flatL_len (n : Nat) (L : Nat → Nat → Nat) : (flatL n L).length = n * 4 := by simp [flatL]
theorem flatL_one (n : Nat) (L : Nat → Nat → Nat) : ∀ u ∈ flatL n L, u.oneCell' = true := by
  intro u hu
  unfold flatL at hu
  obtain ⟨c, _, rfl⟩ := List.mem_map.1 hu
  rfl
theorem flatL_at {n : Nat} {L : Nat → Nat → Nat} {c : Nat} (hc : c < n * 4) : (flatL n L)[c]? = some (.float .f32 (L (c / 4) (c % 4))) := by
  simp [flatL, hc]
theorem flatL_news {w : World} {ab ao n : Nat} {L : Nat → Nat → Nat} (ha : LArg w (some ⟨ab, ao, none⟩) n L) : ∀ j u, (flatL n L)[j]? = some u → w.cell? ((⟨ab, ao, none⟩ : Addr).add j) = some u := by
  intro j u hu
  have hj : j < n * 4 := by
    rcases Nat.lt_or_ge j (n * 4) with h | h
    · exact h
    · rw [List.getElem?_eq_none (by rw [flatL_len]; exact h)] at hu; cases hu
  rw [flatL_at hj] at hu
  cases hu
  obtain ⟨b, off, e, _, hc⟩ := ha (j / 4) (by omega)
  injection e with e
  injection e with e1 e2
  subst e1 e2
  have h := (hc (j % 4) (by omega)).1
  rw [show ao + j / 4 * 4 + j % 4 = ao + j by omega] at h
  have e2 : (⟨ab, ao, none⟩ : Addr).add j = ⟨ab, ao + j, none⟩ := by
    unfold Addr.add; by_cases h : j = 0 <;> simp [h]
  rw [e2]; exact h
theorem row_of_flat {w : World} {base g n cap : Nat} {e : TypeId} {L : Nat → Nat → Nat} (h : w.ownsRow base e 4 (.slice (some ⟨g, 0, none⟩) n cap) n (flatL n L)) (hb : ∀ i j, i < n → j < 4 → L i j < 2 ^ 32) : LRow w g n L :=
  ⟨fun i j hi hj => by
    rw [h.cellAt (i * 4 + j) (by omega), flatL_at (by omega)]
    rw [show (i * 4 + j) / 4 = i by omega, show (i * 4 + j) % 4 = j by omega], fun i => h.frozenAt i, hb⟩
theorem Fl.LArg.bd {w : World} {A : Option Addr} {n : Nat} {L : Nat → Nat → Nat} (h : LArg w A n L) : ∀ i j, i < n → j < 4 → L i j < 2 ^ 32 := fun i j hi hj => by
  obtain ⟨_, _, _, _, hc⟩ := h i hi
  exact (hc j hj).2
theorem made_owns (w : World) (base : Nat) (hb : base ≤ w.heap.size) : (w.alloc (.cells #[] 70)).ownsRow base 70 4 (.slice (some ⟨w.heap.size, 0, none⟩) 0 0) 0 [] := World.ownsRow_made w #[] 0 hb (Nat.zero_le _) rfl
/-- What append gives: a row of its own. -/
structure GotL (w0 w' : World) (g n cap : Nat) (L : Nat → Nat → Nat) : Prop where
  lo : w0.heap.size ≤ g
  lt : g < w'.heap.size
  row : LRow w' g n L
  below : Below w0.heap.size w0 w'
set_option maxRecDepth 100000 in
/-- THE WALK's LAW: append of layers to an empty slice of its own. -/
theorem wpList_copyL {ops : Array Oper} {rest : List Oper} {o : Oper} {a : Act} {Q : Exit → Act → World → Prop} (hgd : o.guard = none) (s x : Operand)
    (ho : o.op = .call { callee := .builtin .append, args := #[s, x], argTypes := #[40, 40] })
    (w0 w1 : World) (g0 : Nat) (hb0 : Below w0.heap.size w0 w1) (hown0 : w1.ownsRow w0.heap.size 70 4 (.slice (some ⟨g0, 0, none⟩) 0 0) 0 []) (hs : a.eval s = .slice (some ⟨g0, 0, none⟩) 0 0) (A : Option Addr) (n c : Nat) (L : Nat → Nat → Nat) (hx : a.eval x = .slice A n c) (ha : LArg w0 A n L) (h1 : 1 ≤ n) (hn : n ≤ 1048576)
    (h : ∀ g cap w', Hid (GotL w0 w' g n cap L) → wpList Try.prog ops Q rest (a.put o.dst (.slice (some ⟨g, 0, none⟩) n cap)) w') : wpList Try.prog ops Q (o :: rest) a w1 := by
  obtain ⟨i0, hi, hz0, hz1, hz2⟩ := info_parts info4
  obtain ⟨ab, ao, rfl, _, _⟩ := ha 0 (by omega)
  have ha1 := ha.below hb0
  have hl := hown0.lt g0 rfl
  refine wpList_append_lies _ hgd s x 40 ho w0.heap.size 70 i0 (.agg #[.float .f32 0, .float .f32 0, .float .f32 0, .float .f32 0]) 4 16 Try.underlying40 hi hz0 hz1 hz2 rfl (by decide) _ 0 [] hs hown0 ⟨ab, ao, none⟩ n c (flatL n L) hx (flatL_len n L) (flatL_news ha1) (flatL_one n L) (by omega) (by unfold maxLen; omega) (by omega) hb0.size _ rfl ?_
  intro g cap w' hown hgrow hat hlt
  rw [Nat.zero_add, List.nil_append] at hown
  have hbl : Below w0.heap.size w0 w' := hb0.grown hgrow hb0.size (fun k hk => by
    simp only [Value.ownBlock, Option.some.injEq] at hk; omega)
  have hg : w0.heap.size ≤ g := by
    have := hb0.size
    rcases hat with hat | hat
    · simp only [Value.ownBlock, Option.some.injEq] at hat; omega
    · omega
  have := h g cap w' ⟨hg, hlt, row_of_flat hown ha.bd, hbl⟩
  rw [Nat.zero_add]
  exact this
set_option maxRecDepth 100000 in
/-- THE WALK's LAW: append of layers to an empty slice of its own. -/
theorem step_copyL {ops : Array Oper} {o : Oper} {a : Act} {K : Act → World → Prop} {Q : Exit → Act → World → Prop} {E : Prop} (hgd : o.guard = none) (s x : Operand)
    (ho : o.op = .call { callee := .builtin .append, args := #[s, x], argTypes := #[40, 40] })
    (w0 w1 : World) (g0 : Nat) (hb0 : Below w0.heap.size w0 w1) (hown0 : w1.ownsRow w0.heap.size 70 4 (.slice (some ⟨g0, 0, none⟩) 0 0) 0 []) (hs : a.eval s = .slice (some ⟨g0, 0, none⟩) 0 0) (A : Option Addr) (n c : Nat) (L : Nat → Nat → Nat) (hx : a.eval x = .slice A n c) (ha : LArg w0 A n L) (h1 : 1 ≤ n) (hn : n ≤ 1048576)
    (h : ∀ g cap w', Hid (GotL w0 w' g n cap L) → K (a.put o.dst (.slice (some ⟨g, 0, none⟩) n cap)) w') : if Region.wanted o (yielded ops a.tmps) = true then Oper.wp Try.prog o a w1 K Q else E := by
  obtain ⟨i0, hi, hz0, hz1, hz2⟩ := info_parts info4
  obtain ⟨ab, ao, rfl, _, _⟩ := ha 0 (by omega)
  have ha1 := ha.below hb0
  have hl := hown0.lt g0 rfl
  refine step_append_lies _ hgd s x 40 ho w0.heap.size 70 i0 (.agg #[.float .f32 0, .float .f32 0, .float .f32 0, .float .f32 0]) 4 16 Try.underlying40 hi hz0 hz1 hz2 rfl (by decide) _ 0 [] hs hown0 ⟨ab, ao, none⟩ n c (flatL n L) hx (flatL_len n L) (flatL_news ha1) (flatL_one n L) (by omega) (by unfold maxLen; omega) (by omega) hb0.size _ rfl ?_
  intro g cap w' hown hgrow hat hlt
  rw [Nat.zero_add, List.nil_append] at hown
  have hbl : Below w0.heap.size w0 w' := hb0.grown hgrow hb0.size (fun k hk => by
    simp only [Value.ownBlock, Option.some.injEq] at hk; omega)
  have hg : w0.heap.size ≤ g := by
    have := hb0.size
    rcases hat with hat | hat
    · simp only [Value.ownBlock, Option.some.injEq] at hat; omega
    · omega
  have := h g cap w' ⟨hg, hlt, row_of_flat hown ha.bd, hbl⟩
  rw [Nat.zero_add]
  exact this
set_option maxRecDepth 100000 in
theorem clone_any (A : Option Addr) (n c : Nat) (L : Nat → Nat → Nat) (w : World) (h1 : 1 ≤ n) (hn : n ≤ 1048576) (ha : LArg w A n L) :
    Calls Try.prog 107 #[.slice A n c] w fun e w' => ∃ g cap, e = .returned (.slice (some ⟨g, 0, none⟩) n cap) ∧ Hid (GotL w w' g n cap L) := by
  have HA := hid ha
  have H1 := hid h1
  have HN := hid hn
  obtain ⟨ab, ao, rfl, _, _⟩ := ha 0 (by omega)
  clear ha h1 hn
  have q22 : ∀ (w : World) (a : Option Addr) (n c n' c' : Nat), (binOp .eql 40 (.slice a n c) (.slice none n' c')).run Try.prog w = .ok (.bool a.isNone) w := fun w a n c n' c' => Lib.run_eql_slice_nil w _ _ a n c n' c' Try.underlying40
  go_enter Try.func107, Try.ntmps107
  go_wp2_with (at_builtin; refine wpList_copyL rfl (.tmp 5) (.tmp 6) rfl w _ w.heap.size (below_alloc1 w _) (made_owns w w.heap.size (Nat.le_refl _)) rfl (some ⟨ab, ao, none⟩) n c L rfl HA.out H1.out HN.out ?_; intro g cap w' HGo)
  go_ret
  exact ⟨g, cap, rfl, HGo⟩
set_option maxHeartbeats 1000000 in
set_option maxRecDepth 100000 in
theorem own_any (b : Nat) (A : Option Addr) (n c : Nat) (L : Nat → Nat → Nat) (s q : Nat) (w : World) (h1 : 1 ≤ n) (hn : n ≤ 1048576) (hG : GBox w b A n c s q) (ha : LArg w A n L) :
    Calls Try.prog 106 #[.pointer (some ⟨b, 0, none⟩)] w fun e w' => ∃ g cap, e = .returned (.agg #[.slice (some ⟨g, 0, none⟩) n cap, .float .f32 s, .float .f32 q]) ∧ Hid (w.heap.size ≤ g ∧ g < w'.heap.size ∧ LRow w' g n L ∧ Below w.heap.size w w') := by
  have H1 := hid h1
  have HN := hid hn
  obtain ⟨ab, ao, rfl, _, _⟩ := ha 0 (by omega)
  have HA := hid ha
  have hG1 := hG.below (below_alloc1 w (.cells #[.slice none 0 0, .float .f32 0, .float .f32 0] 42))
  obtain ⟨p0, p1, p2, p3⟩ := id hG1
  have hZ : (w.alloc (.cells #[.slice none 0 0, .float .f32 0, .float .f32 0] 42)).heap.size = w.heap.size + 1 := by simp
  have HO0 : ((w.alloc (.cells #[.slice none 0 0, .float .f32 0, .float .f32 0] 42)).alloc (.cells #[] 70)).ownsRow (w.alloc (.cells #[.slice none 0 0, .float .f32 0, .float .f32 0] 42)).heap.size 70 4 (.slice (some ⟨w.heap.size + 1, 0, none⟩) 0 0) 0 [] := by
    rw [← hZ]; exact made_owns _ _ (Nat.le_refl _)
  have HO := hid HO0
  have HBe := hid (below_alloc1 (w.alloc (.cells #[.slice none 0 0, .float .f32 0, .float .f32 0] 42)) (.cells #[] 70))
  have HA2 := hid (HA.out.below (below_alloc1 w (.cells #[.slice none 0 0, .float .f32 0, .float .f32 0] 42)))
  have nb : b ≠ w.heap.size := by have := hG.lt; omega
  have nb' : w.heap.size ≠ b := fun e => nb e.symm
  have lw : w.heap.size < (w.alloc (.cells #[.slice none 0 0, .float .f32 0, .float .f32 0] 42)).heap.size := by rw [hZ]; omega
  have HZ := hid hZ
  clear hZ HO0
  have T0 : (w.alloc (.cells #[.slice none 0 0, .float .f32 0, .float .f32 0] 42)).cell? ⟨w.heap.size, 0, none⟩ = some (.slice none 0 0) := by simp
  have T1 : (w.alloc (.cells #[.slice none 0 0, .float .f32 0, .float .f32 0] 42)).cell? ⟨w.heap.size, 1, none⟩ = some (.float .f32 0) := by simp
  have T2 : (w.alloc (.cells #[.slice none 0 0, .float .f32 0, .float .f32 0] 42)).cell? ⟨w.heap.size, 2, none⟩ = some (.float .f32 0) := by simp
  have F0 : ∀ i, (w.alloc (.cells #[.slice none 0 0, .float .f32 0, .float .f32 0] 42)).frozen? ⟨w.heap.size, i, none⟩ = false := fun i => by simp
  have HT := hid (And.intro T0 (And.intro T1 (And.intro T2 F0)))
  clear T0 T1 T2 F0
  go_enter Try.func106, Try.ntmps106
  go_wp2_with fail
  go_region_held_law (fun w' => w'.cell? ⟨b, 0, none⟩ = some (.slice (some ⟨ab, ao, none⟩) n c) ∧ w'.cell? ⟨b, 1, none⟩ = some (.float .f32 s) ∧ w'.cell? ⟨b, 2, none⟩ = some (.float .f32 q)) (first | (refine ⟨?_, ?_, ?_⟩ <;> assumption) | go_keep) ((refine step_copyL (by rfl) (.tmp 3) (.tmp 7) (by rfl) (w.alloc (.cells #[.slice none 0 0, .float .f32 0, .float .f32 0] 42)) _ (w.heap.size + 1) (by exact ⟨HBe.out.os, HBe.out.tape, HBe.out.output, HBe.out.size, HBe.out.block⟩) (by exact HO.out) (by rfl) (some ⟨ab, ao, none⟩) n c L (by rfl) (by exact HA2.out) H1.out HN.out ?_; intro g cap w' HGo; have m0 := (HGo.out.below.cell (p := ⟨b, 0, none⟩) hG1.lt).trans hG1.c0; have m1 := (HGo.out.below.cell (p := ⟨b, 1, none⟩) hG1.lt).trans hG1.c1; have m2 := (HGo.out.below.cell (p := ⟨b, 2, none⟩) hG1.lt).trans hG1.c2; have r0 := (HGo.out.below.cell (p := ⟨w.heap.size, 0, none⟩) lw).trans HT.out.1; have r1 := (HGo.out.below.cell (p := ⟨w.heap.size, 1, none⟩) lw).trans HT.out.2.1; have r2 := (HGo.out.below.cell (p := ⟨w.heap.size, 2, none⟩) lw).trans HT.out.2.2.1; have f0 := (HGo.out.below.frozen (p := ⟨w.heap.size, 0, none⟩) lw).trans (HT.out.2.2.2 0); have f1 := (HGo.out.below.frozen (p := ⟨w.heap.size, 1, none⟩) lw).trans (HT.out.2.2.2 1); have f2 := (HGo.out.below.frozen (p := ⟨w.heap.size, 2, none⟩) lw).trans (HT.out.2.2.2 2)))
  go_wp2
  have lg : w.heap.size + 1 ≤ g := by have := HGo.out.lo; rw [HZ.out] at this; exact this
  have hb3 := below_step (below_alloc1 w (.cells #[.slice none 0 0, .float .f32 0, .float .f32 0] 42)) HGo.out.below rfl rfl rfl rfl
  have ng : g ≠ w.heap.size := by omega
  refine bodyPost_ret (v := .agg #[.slice (some ⟨g, 0, none⟩) n cap, .float .f32 s, .float .f32 q]) (by simp [results, Try.results106, go_sem, r0, r1, r2]) rfl ⟨g, cap, rfl, by omega, by simpa [World.setCell] using HGo.out.lt, ?_, ?_⟩
  · exact ((HGo.out.row.set ng _).set ng _).set ng _
  · exact ((hb3.setCell (Nat.le_refl _) _).setCell (Nat.le_refl _) _).setCell (Nat.le_refl _) _
end Go.Proofs.Ytmomgaiondjinaa
