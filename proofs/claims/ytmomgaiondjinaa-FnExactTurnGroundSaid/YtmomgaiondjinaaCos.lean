/- Speeds, sines, cosines; CosineIn of the reference and of the program. No condition. -/
import Derived.Test.YtmomgaiondjinaaHard
import Derived.Test.YtmomgaiondjinaaRoot
namespace Go.Proofs.Ytmomgaiondjinaa
open Go.RowKit Go.Proofs.Ytmomgaiondjinaa.Fl
/-- The speed of a layer, or of what is below. -/
def spdV (n : Nat) (L : Nat → Nat → Nat) (s : Nat) (k : Nat) : Nat := if k = n then s else L k 1
theorem spdV_lt {w : World} {A : Option Addr} {n : Nat} {L : Nat → Nat → Nat} {s k : Nat} (ha : LArg w A n L) (hk : k ≤ n) (hs : s < 2 ^ 32) : spdV n L s k < 2 ^ 32 := by
  unfold spdV
  split
  · exact hs
  · obtain ⟨_, _, _, _, h⟩ := ha k (by omega)
    exact (h 1 (by omega)).2
set_option maxRecDepth 100000 in
theorem specSpeed_any (b : Nat) (A : Option Addr) (n c : Nat) (L : Nat → Nat → Nat) (s q : Nat) (k : Nat) (w : World) (hn : n ≤ 1048576) (hk : k ≤ n) (hG : GBox w b A n c s q) (ha : LArg w A n L) :
    Calls Try.prog 98 #[.pointer (some ⟨b, 0, none⟩), .int .i64 k] w fun e w' => e = .returned (.float .f32 (spdV n L s k)) ∧ w = w' := by
  have hnz : (n : Int) ≤ 1048576 := by omega
  have XGa := hG.c0
  have XGb := hG.c1
  have HA := hid ha
  clear ha hG
  by_cases hkn : k = n
  · have H : Hid (spdV n L s k = s) := by unfold Hid spdV; rw [if_pos hkn]
    subst hkn
    go_enter Try.func98, Try.ntmps98
    go_wp2
    go_ret
    exact ⟨by rw [H.out]; rfl, rfl⟩
  · have H : Hid (spdV n L s k = L k 1) := by unfold Hid spdV; rw [if_neg hkn]
    have hlt : k < n := by omega
    have hne : ((k : Int) == (n : Int)) = false := by simp; omega
    obtain ⟨ab, ao, x0, x1, x2, x3, rfl, hab, c0, c1, c2, c3, e0, e1, e2, e3, _, _, _, _⟩ := HA.out.get hlt
    have HE := hid e1
    clear e0 e1 e2 e3 hkn
    go_enter Try.func98, Try.ntmps98
    go_wp2
    go_ret
    exact ⟨by rw [H.out, ← HE.out]; rfl, rfl⟩
set_option maxRecDepth 100000 in
theorem implSpeed_any (A : Option Addr) (n c : Nat) (L : Nat → Nat → Nat) (s q : Nat) (k : Nat) (w : World) (hn : n ≤ 1048576) (hk : k ≤ n) (ha : LArg w A n L) :
    Calls Try.prog 99 #[.agg #[.slice A n c, .float .f32 s, .float .f32 q], .int .i64 k] w fun e w' => e = .returned (.float .f32 (spdV n L s k)) ∧ Below w.heap.size w w' := by
  have hnz : (n : Int) ≤ 1048576 := by omega
  have HA := hid ha
  have hst := below_alloc1 w (.cells #[.slice A n c, .float .f32 s, .float .f32 q] 42)
  clear ha
  by_cases hkn : k = n
  · have H : Hid (spdV n L s k = s) := by unfold Hid spdV; rw [if_pos hkn]
    subst hkn
    go_enter Try.func99, Try.ntmps99
    go_wp2_with (go_at_call 81; refine (lengthL_any _ _ _ _).mono ?_; rintro e w1 ⟨rfl, rfl⟩)
    go_ret
    exact ⟨by rw [H.out]; rfl, hst⟩
  · have H : Hid (spdV n L s k = L k 1) := by unfold Hid spdV; rw [if_neg hkn]
    have hlt : k < n := by omega
    obtain ⟨ab, ao, x0, x1, x2, x3, rfl, hab, c0, c1, c2, c3, e0, e1, e2, e3, _, _, _, _⟩ := HA.out.get hlt
    have HE := hid e1
    clear e0 e1 e2 e3 hkn
    go_enter Try.func99, Try.ntmps99
    go_wp2_with (go_at_call 81; refine (lengthL_any _ _ _ _).mono ?_; rintro e w1 ⟨rfl, rfl⟩)
    go_ret
    exact ⟨by rw [H.out, ← HE.out]; rfl, hst⟩
/-- The sine of a ray, and its cosine. -/
def sinV (p v : Nat) : Nat := fop .mul .f32 p v
def cosV (x : Nat) : Nat := rootV (fop .sub .f32 1065353216 (fop .mul .f32 x x))
theorem lt1_of {x E : Nat} (h : nz .f32 x = E) : lt1 x = lt1 E := by unfold lt1; rw [← h, order_nz_left]
theorem cos_end {x m d r E : Nat} (hx : Hid (nz .f32 x = E)) (hm : Hid (nz .f32 m = fop .mul .f32 x x)) (hd : Hid (nz .f32 d = fop .sub .f32 1065353216 m)) (hr : Hid (nz .f32 r = rootV d)) : Hid (nz .f32 r = cosV E) := by
  unfold Hid cosV
  rw [hr.out, ← rootV_nz d, hd.out, ← fop_nz_right .sub .f32 _ m, hm.out, ← hx.out, fop_nz_left, fop_nz_right]
set_option maxHeartbeats 1000000 in
set_option maxRecDepth 100000 in
theorem specCos_any (b : Nat) (A : Option Addr) (n c : Nat) (L : Nat → Nat → Nat) (s q : Nat) (k p : Nat) (w : World) (hn : n ≤ 1048576) (hk : k ≤ n) (hG : GBox w b A n c s q) (ha : LArg w A n L) :
    Calls Try.prog 110 #[.pointer (some ⟨b, 0, none⟩), .int .i64 k, .float .f32 p] w (RetFB .f32 (if lt1 (sinV p (spdV n L s k)) then cosV (sinV p (spdV n L s k)) else 0) (lt1 (sinV p (spdV n L s k))) w) := by
  have HS : ∀ W, W = w → Hid (Calls Try.prog 124 #[.pointer (some ⟨b, 0, none⟩), .int .i64 k, .float .f32 p] W (RetF .f32 (sinV p (spdV n L s k)) W)) := by
    rintro W rfl
    have HG := hid hG
    have HA := hid ha
    have HN := hid hn
    have HK := hid hk
    clear ha hG hn hk
    unfold Hid
    go_enter Try.func124, Try.ntmps124
    go_wp2_with (first | (go_at_call 98; refine (specSpeed_any _ A n c L s q k _ HN.out HK.out HG.out HA.out).mono ?_; rintro e w1 ⟨rfl, rfl⟩) | (refine wpList_fop _ rfl .mul _ _ _ _ rfl rfl _ _ _ rfl rfl ?_; intro z mz hz bz))
    go_ret
    exact ⟨z, _, rfl, hz, bz, rfl⟩
  clear ha hG hn hk
  cases hc : lt1 (sinV p (spdV n L s k))
  all_goals
    have HC := hid hc
    clear hc
    go_enter Try.func110, Try.ntmps110
    go_wp2_with fail
    refine ((HS _ rfl).out).mono ?_
    rintro e w1 ⟨x, n1, rfl, hx, bx, rfl⟩
    have q4 : (FloatKind.f32.format.order x 1065353216 == some .lt) = _ := (lt1_of hx.out).trans HC.out
    clear HS
  · go_wp2
    go_ret2
    exact ⟨0, _, rfl, nz_num (nanB_fin (finW_zero .f32)), hid32 (by decide), rfl⟩
  · go_wp2_with (first | (refine wpList_fop _ rfl .mul _ _ _ _ rfl rfl _ _ _ rfl rfl ?_; intro z mz hz bz) | (refine wpList_fop _ rfl .sub _ _ _ _ rfl rfl _ _ _ rfl rfl ?_; intro d md hd bd) | (go_at_call 67; refine (specRoot_any _ bd.out _).mono ?_; rintro e w1 ⟨r, nr, rfl, hr, br, rfl⟩))
    go_ret2
    exact ⟨r, _, rfl, cos_end hx hz hd hr, br, rfl⟩
set_option maxHeartbeats 1000000 in
set_option maxRecDepth 100000 in
theorem implCos_any (A : Option Addr) (n c : Nat) (L : Nat → Nat → Nat) (s q : Nat) (k p : Nat) (w : World) (hn : n ≤ 1048576) (hk : k ≤ n) (ha : LArg w A n L) :
    Calls Try.prog 111 #[.agg #[.slice A n c, .float .f32 s, .float .f32 q], .int .i64 k, .float .f32 p] w (RetFBW .f32 (if lt1 (sinV p (spdV n L s k)) then cosV (sinV p (spdV n L s k)) else 0) (lt1 (sinV p (spdV n L s k))) w) := by
  have hst := below_alloc1 w (.cells #[.slice A n c, .float .f32 s, .float .f32 q] 42)
  have HS := hid (fun W (hW : W = w.alloc (.cells #[.slice A n c, .float .f32 s, .float .f32 q] 42)) => implSpeed_any A n c L s q k W hn hk (by rw [hW]; exact ha.below hst))
  clear ha hn hk
  cases hc : lt1 (sinV p (spdV n L s k))
  all_goals
    have HC := hid hc
    clear hc
    go_enter Try.func111, Try.ntmps111
    go_wp2_with fail
    refine (HS.out _ rfl).mono ?_
    rintro e w1 ⟨rfl, B1⟩
    have hb := below_step hst B1 rfl rfl rfl rfl
    clear HS B1 hst
  · go_wp2_with (refine wpList_fop _ rfl .mul _ _ _ _ rfl rfl _ _ _ rfl rfl ?_; intro x mx hx bx; have q4 : (FloatKind.f32.format.order x 1065353216 == some .lt) = _ := (lt1_of hx.out).trans HC.out)
    go_ret2
    exact ⟨0, rfl, nz_num (nanB_fin (finW_zero .f32)), hid32 (by decide), below_drewN hb _⟩
  · go_wp2_with (first | (refine wpList_fop _ rfl .mul _ _ _ _ rfl rfl _ p (spdV n L s k) rfl rfl ?_; intro x mx hx bx; have q4 : (FloatKind.f32.format.order x 1065353216 == some .lt) = _ := (lt1_of hx.out).trans HC.out) | (refine wpList_fop _ rfl .mul _ _ _ _ rfl rfl _ _ _ rfl rfl ?_; intro z mz hz bz) | (refine wpList_fop _ rfl .sub _ _ _ _ rfl rfl _ _ _ rfl rfl ?_; intro d md hd bd) | (go_at_call 71; refine (implRoot_any _ bd.out _).mono ?_; rintro e w1 ⟨r, nr, rfl, hr, br, rfl⟩))
    go_ret2
    exact ⟨r, rfl, cos_end hx hz hd hr, br, below_drewN hb _⟩
/-- CosineIn: its float and its bool. -/
def cosOk (n : Nat) (L : Nat → Nat → Nat) (s q : Nat) (k : Int) (p : Nat) : Bool := layerB n L s q k && ge0 p
def cosE (n : Nat) (L : Nat → Nat → Nat) (s q : Nat) (k : Int) (p : Nat) : Nat := if cosOk n L s q k p then (if lt1 (sinV p (spdV n L s k.toNat)) then cosV (sinV p (spdV n L s k.toNat)) else 0) else 0
theorem slow_any (p : Nat) (w : World) : Calls Try.prog 109 #[.float .f32 p] w fun e w' => e = .returned (.bool (ge0 p)) ∧ w = w' := by
  go_enter Try.func109, Try.ntmps109
  go_wp2
  go_ret
  exact ⟨rfl, rfl⟩
set_option maxHeartbeats 1000000 in
set_option maxRecDepth 100000 in
theorem specCosineIn_any (A : Option Addr) (n c : Nat) (L : Nat → Nat → Nat) (s q : Nat) (k : Int) (p : Nat) (w : World) (hn : n ≤ 1048576) (ha : LArg w A n L) :
    Calls Try.prog 57 #[.agg #[.slice A n c, .float .f32 s, .float .f32 q], .int .i64 k, .float .f32 p] w (RetFBW .f32 (cosE n L s q k p) (cosOk n L s q k p && lt1 (sinV p (spdV n L s k.toNat))) w) := by
  have hbl := below_alloc1 w (.cells #[.slice A n c, .float .f32 s, .float .f32 q] 42)
  have HG := hid (GBox.new w 42 A n c s q)
  have HL := hid (ha.below hbl)
  have HN := hid hn
  clear ha hn
  cases hc : layerB n L s q k
  · have HC := hid hc
    have H : Hid (cosOk n L s q k p = false) := by unfold Hid cosOk; rw [hc]; rfl
    have H2 : Hid (cosE n L s q k p = 0) := by unfold Hid cosE; rw [H.out]; rfl
    clear hc
    go_enter Try.func57, Try.ntmps57
    go_wp2_with (go_at_call 85; refine (specLayer_any _ A n c L s q k _ HN.out HG.out HL.out).mono ?_; rintro e w1 ⟨rfl, n1, rfl⟩; rw [HC.out])
    go_ret2
    exact ⟨0, by rw [H.out]; rfl, by rw [H2.out]; exact nz_num (nanB_fin (finW_zero .f32)), hid32 (by decide), below_drewN hbl _⟩
  · obtain ⟨j, rfl, hj, _⟩ := layerB_iff hc
    have HJ := hid hj
    have HC := hid hc
    have T : Hid ((j : Int).toNat = j) := by unfold Hid; omega
    cases hp : ge0 p
    · have HP := hid hp
      have H : Hid (cosOk n L s q j p = false) := by unfold Hid cosOk; rw [hc, hp]; rfl
      have H2 : Hid (cosE n L s q j p = 0) := by unfold Hid cosE; rw [H.out]; rfl
      clear hc hj hp
      go_enter Try.func57, Try.ntmps57
      go_wp2_with (first | (go_at_call 85; refine (specLayer_any _ A n c L s q _ _ HN.out HG.out HL.out).mono ?_; rintro e w1 ⟨rfl, n1, rfl⟩; rw [HC.out]) | (go_at_call 109; refine (slow_any _ _).mono ?_; rintro e w1 ⟨rfl, rfl⟩; rw [HP.out]))
      go_ret2
      exact ⟨0, by rw [H.out]; rfl, by rw [H2.out]; exact nz_num (nanB_fin (finW_zero .f32)), hid32 (by decide), below_drewN hbl _⟩
    · have HP := hid hp
      have H : Hid (cosOk n L s q j p = true) := by unfold Hid cosOk; rw [hc, hp]; rfl
      have H2 : Hid (cosE n L s q j p = if lt1 (sinV p (spdV n L s j)) then cosV (sinV p (spdV n L s j)) else 0) := by unfold Hid cosE; rw [H.out, T.out]; rfl
      clear hc hj hp
      go_enter Try.func57, Try.ntmps57
      go_wp2_with (first | (go_at_call 85; refine (specLayer_any _ A n c L s q _ _ HN.out HG.out HL.out).mono ?_; rintro e w1 ⟨rfl, n1, rfl⟩; rw [HC.out]) | (go_at_call 109; refine (slow_any _ _).mono ?_; rintro e w1 ⟨rfl, rfl⟩; rw [HP.out]))
      refine (specCos_any _ A n c L s q j p _ HN.out HJ.out (by exact ⟨HG.out.c0, HG.out.c1, HG.out.c2, HG.out.lt⟩) (by exact HL.out)).mono ?_
      rintro e w1 ⟨x, n2, rfl, hx, bx, rfl⟩
      go_wp2
      go_ret2
      exact ⟨x, by rw [H.out, T.out]; rfl, by rw [H2.out]; exact hx, bx, below_drewN hbl _⟩
set_option maxHeartbeats 1000000 in
set_option maxRecDepth 100000 in
theorem implCosineIn_any (A : Option Addr) (n c : Nat) (L : Nat → Nat → Nat) (s q : Nat) (k : Int) (p : Nat) (w : World) (hn : n ≤ 1048576) (ha : LArg w A n L) (bs : s < 2 ^ 32) (bq : q < 2 ^ 32) :
    Calls Try.prog 58 #[.agg #[.slice A n c, .float .f32 s, .float .f32 q], .int .i64 k, .float .f32 p] w (RetFBW .f32 (cosE n L s q k p) (cosOk n L s q k p && lt1 (sinV p (spdV n L s k.toNat))) w) := by
  have hbl := below_alloc1 w (.cells #[.slice A n c, .float .f32 s, .float .f32 q] 42)
  have XG := GBox.new w 42 A n c s q
  have HL := ha.below hbl
  have HN := hid hn
  clear ha hn
  cases hc : layerB n L s q k
  · have HC := hid hc
    have H : Hid (cosOk n L s q k p = false) := by unfold Hid cosOk; rw [hc]; rfl
    have H2 : Hid (cosE n L s q k p = 0) := by unfold Hid cosE; rw [H.out]; rfl
    clear hc
    go_enter Try.func58, Try.ntmps58
    go_wp2_with fail
    refine (implLayer_any A n c L s q k _ HN.out (by exact HL) bs bq).mono ?_
    rintro e w1 ⟨rfl, B1⟩
    rw [HC.out]
    have hb := below_step hbl B1 rfl rfl rfl rfl
    clear B1 hbl
    go_wp2
    go_ret2
    exact ⟨0, by rw [H.out]; rfl, by rw [H2.out]; exact nz_num (nanB_fin (finW_zero .f32)), hid32 (by decide), hb⟩
  · obtain ⟨j, rfl, hj, _⟩ := layerB_iff hc
    have HJ := hid hj
    have HC := hid hc
    have T : Hid ((j : Int).toNat = j) := by unfold Hid; omega
    cases hp : ge0 p
    · have q3 := ge0_is p
      rw [hp] at q3
      have H : Hid (cosOk n L s q j p = false) := by unfold Hid cosOk; rw [hc, hp]; rfl
      have H2 : Hid (cosE n L s q j p = 0) := by unfold Hid cosE; rw [H.out]; rfl
      clear hc hj hp
      go_enter Try.func58, Try.ntmps58
      go_wp2_with fail
      refine (implLayer_any A n c L s q _ _ HN.out (by exact HL) bs bq).mono ?_
      rintro e w1 ⟨rfl, B1⟩
      rw [HC.out]
      have hb := below_step hbl B1 rfl rfl rfl rfl
      clear B1 hbl
      go_wp2
      go_ret2
      exact ⟨0, by rw [H.out]; rfl, by rw [H2.out]; exact nz_num (nanB_fin (finW_zero .f32)), hid32 (by decide), hb⟩
    · have q3 := ge0_is p
      rw [hp] at q3
      have H : Hid (cosOk n L s q j p = true) := by unfold Hid cosOk; rw [hc, hp]; rfl
      have H2 : Hid (cosE n L s q j p = if lt1 (sinV p (spdV n L s j)) then cosV (sinV p (spdV n L s j)) else 0) := by unfold Hid cosE; rw [H.out, T.out]; rfl
      clear hc hj hp
      go_enter Try.func58, Try.ntmps58
      go_wp2_with fail
      refine (implLayer_any A n c L s q _ _ HN.out (by exact HL) bs bq).mono ?_
      rintro e w1 ⟨rfl, B1⟩
      rw [HC.out]
      have XG := XG.below B1
      have XGa := XG.c0
      have XGb := XG.c1
      have XGc := XG.c2
      have HL := HL.below B1
      have hb := below_step hbl B1 rfl rfl rfl rfl
      go_wp2_with fail
      refine (implCos_any A n c L s q j p _ HN.out HJ.out (by exact HL)).mono ?_
      rintro e w2 ⟨x, rfl, hx, bx, B2⟩
      have hb2 := below_step hb B2 rfl rfl rfl rfl
      clear B1 B2 hb hbl XGa XGb XGc XG HL
      go_wp2
      go_ret2
      exact ⟨x, by rw [H.out, T.out]; rfl, by rw [H2.out]; exact hx, bx, hb2⟩
end Go.Proofs.Ytmomgaiondjinaa
