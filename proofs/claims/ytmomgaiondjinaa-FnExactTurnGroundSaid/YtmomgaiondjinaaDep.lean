/- Lists that a call makes by append; depths and times of grounds. No condition. -/
import Derived.Test.YtmomgaiondjinaaHard
import Derived.Laws.AppendOwn
namespace Go.Proofs.Ytmomgaiondjinaa
open Go.RowKit Go.Proofs.Ytmomgaiondjinaa.Fl
theorem cell_new1 (w : World) (t : TypeId) (v : Value) : (w.alloc (.cells #[v] t)).cell? ⟨w.heap.size, 0, none⟩ = some v := by simp
theorem cell_new2 (w : World) (o : Obj) (m : Nat) (t : TypeId) (v : Value) : (((w.alloc o).drewN m).alloc (.cells #[v] t)).cell? ⟨w.heap.size + 1, 0, none⟩ = some v := by
  have h := cell_new1 ((w.alloc o).drewN m) t v
  have e : ((w.alloc o).drewN m).heap.size = w.heap.size + 1 := by show (w.alloc o).heap.size = _; simp
  rw [e] at h; exact h
theorem size_alloc (w : World) (o : Obj) : w.heap.size ≤ (w.alloc o).heap.size := by simp
/-- The call's own list holds these floats, but for a NaN's bits. -/
def OwnsF (w : World) (B : Nat) (v : Value) (k : Nat) (E : Nat → Nat) : Prop :=
  ∃ X : Nat → Nat, w.ownsRow B 23 1 v k ((List.range k).map fun i => .float .f32 (X i)) ∧ ∀ i, i < k → nz .f32 (X i) = E i ∧ X i < 2 ^ 32
theorem OwnsF.nil (w : World) (B : Nat) (E : Nat → Nat) : OwnsF w B (.slice none 0 0) 0 E := ⟨fun _ => 0, World.ownsRow_nil _ _ _ _, fun _ hi => absurd hi (Nat.not_lt_zero _)⟩
theorem OwnsF.made (w : World) (B : Nat) (E : Nat → Nat) (hB : B ≤ w.heap.size) : OwnsF (w.alloc (.cells #[] 23)) B (.slice (some ⟨w.heap.size, 0, none⟩) 0 0) 0 E :=
  ⟨fun _ => 0, World.ownsRow_made w #[] 0 hB (Nat.zero_le _) rfl, fun _ hi => absurd hi (Nat.not_lt_zero _)⟩
theorem OwnsF.drewN {w : World} {B : Nat} {v : Value} {k : Nat} {E : Nat → Nat} (h : OwnsF w B v k E) (n : Nat) : OwnsF (w.drewN n) B v k E := h
theorem OwnsF.alloc {w : World} {B : Nat} {v : Value} {k : Nat} {E : Nat → Nat} (h : OwnsF w B v k E) (o : Obj) : OwnsF (w.alloc o) B v k E := by
  obtain ⟨X, h1, h2⟩ := h; exact ⟨X, h1.alloc o, h2⟩
theorem OwnsF.grown {w w' : World} {B : Nat} {v : Value} {k : Nat} {E : Nat → Nat} (h : OwnsF w B v k E) (hb : Below w.heap.size w w') : OwnsF w' B v k E := by
  obtain ⟨X, h1, h2⟩ := h
  refine ⟨X, ⟨h1.1, ?_⟩, h2⟩
  rcases h1.2 with ⟨e1, e2⟩ | ⟨g, cap, cur, e1, e2, e3, e4⟩
  · exact .inl ⟨e1, e2⟩
  · exact .inr ⟨g, cap, cur, e1, e2, (hb.block g (Array.getElem?_eq_some_iff.1 e3).1).trans e3, e4⟩
/-- A slice of the call's own, with these floats but for a NaN's bits. -/
def FOwnE (w : World) (lo : Nat) (A : Option Addr) (n : Nat) (E : Nat → Nat) : Prop := ∃ X, FOwn w lo A n X ∧ ∀ i, i < n → nz .f32 (X i) = E i
theorem OwnsF.own {w : World} {B : Nat} {v : Value} {k : Nat} {E : Nat → Nat} (h : OwnsF w B v k E) : ∃ A cap, v = .slice A k cap ∧ FOwnE w B A k E := by
  obtain ⟨X, h1, h2⟩ := h
  have hlen : ((List.range k).map fun i => (Value.float .f32 (X i))).length = k := by simp
  rcases h1.2 with ⟨e1, e2⟩ | ⟨g, cap, cur, e1, e2, e3, e4⟩
  · subst e2
    exact ⟨none, 0, e1, X, fun h => absurd h (Nat.lt_irrefl _), fun i hi => (h2 i hi).1⟩
  · subst e1
    refine ⟨some ⟨g, 0, none⟩, cap, rfl, X, fun _ => ⟨g, rfl, e2, (Array.getElem?_eq_some_iff.1 e3).1, ⟨fun i hi => ?_, fun i => h1.frozenAt i, fun i hi => (h2 i hi).2⟩⟩, fun i hi => (h2 i hi).1⟩
    rw [h1.cellAt i (by omega)]
    simp [hi]
theorem FOwnE.below {w w' : World} {lo : Nat} {A : Option Addr} {n : Nat} {E : Nat → Nat} (h : FOwnE w lo A n E) (hb : Below w.heap.size w w') : FOwnE w' lo A n E := by
  obtain ⟨X, h1, h2⟩ := h; exact ⟨X, h1.below hb, h2⟩
/-- It hands back a list of its own; nothing that was there has turned. -/
def RetL (n : Nat) (E : Nat → Nat) (w : World) (e : Ending) (w' : World) : Prop := ∃ A cap, e = .returned (.slice A n cap) ∧ Hid (FOwnE w' w.heap.size A n E) ∧ Below w.heap.size w w'
set_option maxRecDepth 100000 in
/-- THE WALK's LAW: append of one float to a list of the call's own. -/
theorem wpList_appF {w : World} {ops : Array Oper} {rest : List Oper} {o : Oper} {a : Act} {Q : Exit → Act → World → Prop} (hgd : o.guard = none) (s x : Operand)
    (ho : o.op = .call { callee := .builtin .append, args := #[s, x], argTypes := #[22, 22] })
    (B : Nat) (v : Value) (k : Nat) (E : Nat → Nat) (hs : a.eval s = v) (hown : OwnsF w B v k E) (g y : Nat) (hx : a.eval x = .slice (some ⟨g, 0, none⟩) 1 1) (hc : w.cell? ⟨g, 0, none⟩ = some (.float .f32 y)) (hy : nz .f32 y = E k) (hyb : y < 2 ^ 32)
    (hk : k ≤ 1048576) (hB : B ≤ w.heap.size)
    (h : ∀ v' w', Hid (OwnsF w' B v' (k + 1) E) → (∀ B0 a0, B0 ≤ B → Below B0 a0 w → Below B0 a0 w') → wpList Try.prog ops Q rest (a.put o.dst v') w') : wpList Try.prog ops Q (o :: rest) a w := by
  obtain ⟨i0, hi, hz0, hz1, hz2⟩ := info_parts info32
  obtain ⟨X, h1, h2⟩ := hown
  refine wpList_append_own w hgd s x 22 ho B 23 i0 (.float .f32 0) 1 4 Try.underlying22 hi hz0 hz1 hz2 rfl (by decide) v k _ hs h1 ⟨g, 0, none⟩ 1 1 [.float .f32 y] hx rfl ?_ ?_ (by unfold maxLen; omega) (by omega) hB ?_
  · intro j u hu
    match j, hu with
    | 0, hu => simp at hu; subst hu; rw [plain_add]; exact hc
  · intro u hu; simp at hu; subst hu; rfl
  · intro v' w' hown' hgrow _
    refine h v' w' ⟨fun i => if i = k then y else X i, ?_, fun i hi => ?_⟩ (fun B0 a0 hB0 hb => hb.grown hgrow (Nat.le_trans hB0 hB) (fun g' hg' => Nat.le_trans hB0 (h1.lt g' hg').1))
    · have e : (List.range (k + 1)).map (fun i => Value.float .f32 (if i = k then y else X i)) = ((List.range k).map fun i => Value.float .f32 (X i)) ++ [.float .f32 y] := by
        rw [List.range_succ, List.map_append]
        congr 1
        · refine List.map_congr_left fun i hi => ?_
          have : i ≠ k := by have := List.mem_range.1 hi; omega
          rw [if_neg this]
        · simp
      rw [e]; exact hown'
    · by_cases e : i = k
      · subst e; simp only [if_true]; exact ⟨hy, hyb⟩
      · simp only [if_neg e]; exact h2 i (by omega)
def depV (L : Nat → Nat → Nat) : Nat → Nat
  | 0 => 0
  | k + 1 => fop .add .f32 (depV L k) (L k 0)
def timV (L : Nat → Nat → Nat) : Nat → Nat
  | 0 => 0
  | k + 1 => fop .add .f32 (timV L k) (fop .quo .f32 (L k 0) (L k 1))
theorem dep_step {L : Nat → Nat → Nat} {k x s v : Nat} (hs : Hid (nz .f32 s = depV L k)) (hx : Hid (x = L k 0)) (hv : Hid (nz .f32 v = fop .add .f32 s x)) : Hid (nz .f32 v = depV L (k + 1)) := by
  unfold Hid depV; rw [hv.out, ← fop_nz_left .add .f32 s, hs.out, hx.out]
theorem tim_step {L : Nat → Nat → Nat} {k x0 x1 s v z : Nat} (hs : Hid (nz .f32 s = timV L k)) (hx : Hid (x0 = L k 0 ∧ x1 = L k 1)) (hz : Hid (nz .f32 z = fop .quo .f32 x0 x1)) (hv : Hid (nz .f32 v = fop .add .f32 s z)) : Hid (nz .f32 v = timV L (k + 1)) := by
  unfold Hid timV; rw [hv.out, ← fop_nz_left .add .f32 s, hs.out, ← fop_nz_right .add .f32 _ z, hz.out, hx.out.1, hx.out.2]
theorem below_fix {B : Nat} {a b c : World} (h : Below B a b) (e1 : c.os = b.os) (e2 : c.tape = b.tape) (e3 : c.output = b.output) (e4 : c.heap = b.heap) : Below B a c :=
  ⟨e1.trans h.os, e2.trans h.tape, e3.trans h.output, by rw [e4]; exact h.size, fun i hi => by rw [e4]; exact h.block i hi⟩
theorem below_grow1 {a b : World} (h : Below a.heap.size a b) (o : Obj) : Below a.heap.size a (b.alloc o) := h.alloc h.size o
set_option maxHeartbeats 1000000 in
set_option maxRecDepth 100000 in
theorem specDepths_any (b : Nat) (A : Option Addr) (n c : Nat) (L : Nat → Nat → Nat) (s q : Nat) (w : World) (hn : n ≤ 1048576) (hG : GBox w b A n c s q) (ha : LArg w A n L) :
    Calls Try.prog 101 #[.pointer (some ⟨b, 0, none⟩)] w (RetL n (fun i => depV L (i + 1)) w) := by
  have hnz : (n : Int) ≤ 1048576 := by omega
  have HA := hid ha
  have HG := hid hG
  have XGa := hG.c0
  clear hG
  clear ha
  go_enter Try.func101, Try.ntmps101
  go_wp2
  have HO0 := hid (OwnsF.made w w.heap.size (fun i => depV L (i + 1)) (Nat.le_refl _))
  have hb0 := below_alloc1 w (.cells #[] 23)
  go_loopw [3, 4, 5] (fun S l i wr => ∃ k v : Nat, k ≤ n ∧ i = .int .i64 k ∧ S = .float .f32 v ∧ Hid (nz .f32 v = depV L k) ∧ Hid (v < 2 ^ FloatKind.f32.format.width) ∧ Hid (OwnsF wr w.heap.size l k (fun i => depV L (i + 1))) ∧ Below w.heap.size w wr) (fun _ _ i _ => n - (intOf i).toNat)
  case atStart => exact ⟨0, 0, Nat.zero_le _, rfl, rfl, nz_num (nanB_fin (finW_zero .f32)), by unfold Hid; decide, HO0, hb0⟩
  case round =>
    obtain ⟨k, s0, hk, rfl, rfl, hs, bs, HO, hbl⟩ := hrel
    have hsz : w.heap.size ≤ wr.heap.size := hbl.size
    by_cases hlt : k < n
    · obtain ⟨ab, ao, x0, x1, x2, x3, rfl, hab, c0, c1, c2, c3, e0, e1, e2, e3, _, _, _, _⟩ := (HA.out.below hbl).get hlt
      have HE := hid (And.intro e0 e1)
      have HE0 := hid e0
      clear e0 e1 e2 e3
      have i1 : (0 : Int) ≤ (k : Int) := by omega
      have i2 : (k : Int) < (n : Int) := by omega
      have XGr := (hbl.cell (p := ⟨b, 0, none⟩) HG.out.lt).trans XGa
      go_wp2_with (first | (refine wpList_fop _ rfl .add _ _ _ _ rfl rfl _ _ _ rfl rfl ?_; intro v mv hv bv; have HV := dep_step hs HE0 hv) | (at_builtin; refine wpList_appF rfl (.tmp 26) (.tmp 28) rfl w.heap.size _ k (fun i => depV L (i + 1)) rfl (by exact HO.out.alloc _) _ v rfl (by first | exact cell_new1 _ _ _ | exact cell_new2 _ _ _ _ _) HV.out bv.out (by omega) (by exact Nat.le_trans hsz (size_alloc _ _)) ?_; intro v' w' HN hbN))
      have hb9 := hbN _ w (Nat.le_refl _) (below_grow1 (below_drewN hbl _) _)
      go_roundw
      case rel => exact ⟨k + 1, v, by omega, by go_num, rfl, HV, bv, HN, hb9⟩
      case measure => simp [intOf]; omega
    · obtain rfl : k = n := by omega
      obtain ⟨A', cap, rfl, hA'⟩ := HO.out.own
      have HA' := hid hA'
      clear hA'
      have XGr := (hbl.cell (p := ⟨b, 0, none⟩) HG.out.lt).trans XGa
      go_wp2
      go_ret
      exact ⟨A', cap, rfl, HA', hbl⟩
set_option maxHeartbeats 1000000 in
set_option maxRecDepth 100000 in
theorem specTimes_any (b : Nat) (A : Option Addr) (n c : Nat) (L : Nat → Nat → Nat) (s q : Nat) (w : World) (hn : n ≤ 1048576) (hG : GBox w b A n c s q) (ha : LArg w A n L) :
    Calls Try.prog 103 #[.pointer (some ⟨b, 0, none⟩)] w (RetL n (fun i => timV L (i + 1)) w) := by
  have hnz : (n : Int) ≤ 1048576 := by omega
  have HA := hid ha
  have HG := hid hG
  have XGa := hG.c0
  clear hG
  clear ha
  go_enter Try.func103, Try.ntmps103
  go_wp2
  have HO0 := hid (OwnsF.made w w.heap.size (fun i => timV L (i + 1)) (Nat.le_refl _))
  have hb0 := below_alloc1 w (.cells #[] 23)
  go_loopw [3, 4, 5] (fun S l i wr => ∃ k v : Nat, k ≤ n ∧ i = .int .i64 k ∧ S = .float .f32 v ∧ Hid (nz .f32 v = timV L k) ∧ Hid (v < 2 ^ FloatKind.f32.format.width) ∧ Hid (OwnsF wr w.heap.size l k (fun i => timV L (i + 1))) ∧ Below w.heap.size w wr) (fun _ _ i _ => n - (intOf i).toNat)
  case atStart => exact ⟨0, 0, Nat.zero_le _, rfl, rfl, nz_num (nanB_fin (finW_zero .f32)), by unfold Hid; decide, HO0, hb0⟩
  case round =>
    obtain ⟨k, s0, hk, rfl, rfl, hs, bs, HO, hbl⟩ := hrel
    have hsz : w.heap.size ≤ wr.heap.size := hbl.size
    by_cases hlt : k < n
    · obtain ⟨ab, ao, x0, x1, x2, x3, rfl, hab, c0, c1, c2, c3, e0, e1, e2, e3, _, _, _, _⟩ := (HA.out.below hbl).get hlt
      have HE := hid (And.intro e0 e1)
      have HE0 := hid e0
      clear e0 e1 e2 e3
      have i1 : (0 : Int) ≤ (k : Int) := by omega
      have i2 : (k : Int) < (n : Int) := by omega
      have XGr := (hbl.cell (p := ⟨b, 0, none⟩) HG.out.lt).trans XGa
      go_wp2_with fail
      go_region_held (fun w' => w'.cell? ⟨b, 0, none⟩ = some (.slice (some ⟨ab, ao, none⟩) n c) ∧ w'.cell? ⟨ab, ao + k * 4, none⟩ = some (.float .f32 x0) ∧ w'.cell? ⟨ab, ao + k * 4 + 1, none⟩ = some (.float .f32 x1)) (go_keep) (first | (refine upon_fop .quo rfl _ _ _ _ ?_; intro z mz hz bz) | (refine upon_fop .add rfl _ _ _ _ ?_; intro v mv hv bv; have HV := tim_step hs HE hz hv))
      all_goals
        go_wp2_with (at_builtin; refine wpList_appF rfl (.tmp 35) (.tmp 37) rfl w.heap.size _ k (fun i => timV L (i + 1)) rfl (by exact HO.out.alloc _) _ v rfl (by first | exact cell_new1 _ _ _ | exact cell_new2 _ _ _ _ _) HV.out bv.out (by omega) (by exact Nat.le_trans hsz (size_alloc _ _)) ?_; intro v' w' HN hbN)
        have hb9 := hbN _ w (Nat.le_refl _) (below_grow1 (below_drewN hbl _) _)
        go_roundw
        case rel => exact ⟨k + 1, v, by omega, by go_num, rfl, HV, bv, HN, hb9⟩
        case measure => simp [intOf]; omega
    · obtain rfl : k = n := by omega
      obtain ⟨A', cap, rfl, hA'⟩ := HO.out.own
      have HA' := hid hA'
      clear hA'
      have XGr := (hbl.cell (p := ⟨b, 0, none⟩) HG.out.lt).trans XGa
      go_wp2
      go_ret
      exact ⟨A', cap, rfl, HA', hbl⟩
set_option maxHeartbeats 1000000 in
set_option maxRecDepth 100000 in
theorem implDepths_any (A : Option Addr) (n c : Nat) (L : Nat → Nat → Nat) (s q : Nat) (w : World) (hn : n ≤ 1048576) (ha : LArg w A n L) :
    Calls Try.prog 95 #[.agg #[.slice A n c, .float .f32 s, .float .f32 q]] w (RetL n (fun i => depV L (i + 1)) w) := by
  have hnz : (n : Int) ≤ 1048576 := by omega
  have hb0 := below_alloc1 w (.cells #[.slice A n c, .float .f32 s, .float .f32 q] 42)
  have HA := hid (ha.below hb0)
  clear ha
  go_enter Try.func95, Try.ntmps95
  go_wp2
  have HO0 := hid (OwnsF.nil (w.alloc (.cells #[.slice A n c, .float .f32 s, .float .f32 q] 42)) (w.alloc (.cells #[.slice A n c, .float .f32 s, .float .f32 q] 42)).heap.size (fun i => depV L (i + 1)))
  go_loopw [3, 4, 10] (fun l S i wr => ∃ k v : Nat, k ≤ n ∧ i = .int .i64 k ∧ S = .float .f32 v ∧ Hid (nz .f32 v = depV L k) ∧ Hid (v < 2 ^ FloatKind.f32.format.width) ∧ Hid (OwnsF wr (w.alloc (.cells #[.slice A n c, .float .f32 s, .float .f32 q] 42)).heap.size l k (fun i => depV L (i + 1))) ∧ Below (w.alloc (.cells #[.slice A n c, .float .f32 s, .float .f32 q] 42)).heap.size (w.alloc (.cells #[.slice A n c, .float .f32 s, .float .f32 q] 42)) wr) (fun _ _ i _ => n - (intOf i).toNat)
  case atStart => exact ⟨0, 0, Nat.zero_le _, rfl, rfl, nz_num (nanB_fin (finW_zero .f32)), by unfold Hid; decide, HO0, Below.refl _ _⟩
  case round =>
    obtain ⟨k, s0, hk, rfl, rfl, hs, bs, HO, hbl⟩ := hrel
    have hsz : (w.alloc (.cells #[.slice A n c, .float .f32 s, .float .f32 q] 42)).heap.size ≤ wr.heap.size := hbl.size
    by_cases hlt : k < n
    · obtain ⟨ab, ao, x0, x1, x2, x3, rfl, hab, c0, c1, c2, c3, e0, e1, e2, e3, _, _, _, _⟩ := (HA.out.below hbl).get hlt
      have HE := hid (And.intro e0 e1)
      have HE0 := hid e0
      clear e0 e1 e2 e3
      have i1 : (0 : Int) ≤ (k : Int) := by omega
      have i2 : (k : Int) < (n : Int) := by omega
      go_wp2_with (first | (refine wpList_fop _ rfl .add _ _ _ _ rfl rfl _ _ _ rfl rfl ?_; intro v mv hv bv; have HV := dep_step hs HE0 hv) | (at_builtin; refine wpList_appF rfl (.tmp 18) (.tmp 20) rfl (w.alloc (.cells #[.slice (some ⟨ab, ao, none⟩) n c, .float .f32 s, .float .f32 q] 42)).heap.size _ k (fun i => depV L (i + 1)) rfl (by exact (HO.out.alloc _).alloc _) _ v rfl (by first | exact cell_new1 _ _ _ | exact cell_new2 _ _ _ _ _) HV.out bv.out (by omega) (by exact Nat.le_trans hsz (Nat.le_trans (size_alloc _ _) (size_alloc _ _))) ?_; intro v' w' HN hbN))
      have hb9 := hbN _ (w.alloc (.cells #[.slice (some ⟨ab, ao, none⟩) n c, .float .f32 s, .float .f32 q] 42)) (Nat.le_refl _) (by first | exact below_grow1 (below_drewN (below_grow1 hbl _) _) _ | exact below_drewN (below_grow1 (below_grow1 hbl _) _) _)
      go_roundw
      case rel => exact ⟨k + 1, v, by omega, by go_num, rfl, HV, bv, HN, hb9⟩
      case measure => simp [intOf]; omega
    · obtain rfl : k = n := by omega
      obtain ⟨A', cap, rfl, hA'⟩ := HO.out.own
      have HA' := hid hA'
      clear hA'
      go_wp2
      go_ret
      exact ⟨A', cap, rfl, (by obtain ⟨X, h1, h2⟩ := HA'.out; exact ⟨X, h1.mono hb0.size, h2⟩), below_trans hb0 hbl⟩
set_option maxHeartbeats 1000000 in
set_option maxRecDepth 100000 in
theorem implTimes_any (A : Option Addr) (n c : Nat) (L : Nat → Nat → Nat) (s q : Nat) (w : World) (hn : n ≤ 1048576) (ha : LArg w A n L) :
    Calls Try.prog 104 #[.agg #[.slice A n c, .float .f32 s, .float .f32 q]] w (RetL n (fun i => timV L (i + 1)) w) := by
  have hnz : (n : Int) ≤ 1048576 := by omega
  have hb0 := below_alloc1 w (.cells #[.slice A n c, .float .f32 s, .float .f32 q] 42)
  have HA := hid (ha.below hb0)
  clear ha
  go_enter Try.func104, Try.ntmps104
  go_wp2
  have HO0 := hid (OwnsF.nil (w.alloc (.cells #[.slice A n c, .float .f32 s, .float .f32 q] 42)) (w.alloc (.cells #[.slice A n c, .float .f32 s, .float .f32 q] 42)).heap.size (fun i => timV L (i + 1)))
  go_loopw [3, 4, 10] (fun l S i wr => ∃ k v : Nat, k ≤ n ∧ i = .int .i64 k ∧ S = .float .f32 v ∧ Hid (nz .f32 v = timV L k) ∧ Hid (v < 2 ^ FloatKind.f32.format.width) ∧ Hid (OwnsF wr (w.alloc (.cells #[.slice A n c, .float .f32 s, .float .f32 q] 42)).heap.size l k (fun i => timV L (i + 1))) ∧ Below (w.alloc (.cells #[.slice A n c, .float .f32 s, .float .f32 q] 42)).heap.size (w.alloc (.cells #[.slice A n c, .float .f32 s, .float .f32 q] 42)) wr) (fun _ _ i _ => n - (intOf i).toNat)
  case atStart => exact ⟨0, 0, Nat.zero_le _, rfl, rfl, nz_num (nanB_fin (finW_zero .f32)), by unfold Hid; decide, HO0, Below.refl _ _⟩
  case round =>
    obtain ⟨k, s0, hk, rfl, rfl, hs, bs, HO, hbl⟩ := hrel
    have hsz : (w.alloc (.cells #[.slice A n c, .float .f32 s, .float .f32 q] 42)).heap.size ≤ wr.heap.size := hbl.size
    by_cases hlt : k < n
    · obtain ⟨ab, ao, x0, x1, x2, x3, rfl, hab, c0, c1, c2, c3, e0, e1, e2, e3, _, _, _, _⟩ := (HA.out.below hbl).get hlt
      have HE := hid (And.intro e0 e1)
      have HE0 := hid e0
      clear e0 e1 e2 e3
      have i1 : (0 : Int) ≤ (k : Int) := by omega
      have i2 : (k : Int) < (n : Int) := by omega
      go_wp2_with (first | (refine wpList_fop _ rfl .quo _ _ _ _ rfl rfl _ _ _ rfl rfl ?_; intro z mz hz bz) | (refine wpList_fop _ rfl .add _ _ _ _ rfl rfl _ _ _ rfl rfl ?_; intro v mv hv bv; have HV := tim_step hs HE hz hv) | (at_builtin; refine wpList_appF rfl (.tmp 21) (.tmp 23) rfl (w.alloc (.cells #[.slice (some ⟨ab, ao, none⟩) n c, .float .f32 s, .float .f32 q] 42)).heap.size _ k (fun i => timV L (i + 1)) rfl (by exact (HO.out.alloc _).alloc _) _ v rfl (by first | exact cell_new1 _ _ _ | exact cell_new2 _ _ _ _ _) HV.out bv.out (by omega) (by exact Nat.le_trans hsz (Nat.le_trans (size_alloc _ _) (size_alloc _ _))) ?_; intro v' w' HN hbN))
      have hb9 := hbN _ (w.alloc (.cells #[.slice (some ⟨ab, ao, none⟩) n c, .float .f32 s, .float .f32 q] 42)) (Nat.le_refl _) (by first | exact below_grow1 (below_drewN (below_grow1 hbl _) _) _ | exact below_drewN (below_grow1 (below_grow1 hbl _) _) _)
      go_roundw
      case rel => exact ⟨k + 1, v, by omega, by go_num, rfl, HV, bv, HN, hb9⟩
      case measure => simp [intOf]; omega
    · obtain rfl : k = n := by omega
      obtain ⟨A', cap, rfl, hA'⟩ := HO.out.own
      have HA' := hid hA'
      clear hA'
      go_wp2
      go_ret
      exact ⟨A', cap, rfl, (by obtain ⟨X, h1, h2⟩ := HA'.out; exact ⟨X, h1.mono hb0.size, h2⟩), below_trans hb0 hbl⟩
end Go.Proofs.Ytmomgaiondjinaa
