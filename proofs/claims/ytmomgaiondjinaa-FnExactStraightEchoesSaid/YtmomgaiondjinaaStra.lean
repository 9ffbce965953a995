/- The straight coefficient; HardnessAt and ReflectStraight of the reference and of the program. No condition. -/
import Derived.Test.YtmomgaiondjinaaHard
namespace Go.Proofs.Ytmomgaiondjinaa
open Go.RowKit Go.Proofs.Ytmomgaiondjinaa.Fl
def straV (n : Nat) (L : Nat → Nat → Nat) (s q : Nat) (k : Nat) : Nat := fop .quo .f32 (fop .sub .f32 (hardV n L s q (k + 1)) (hardV n L s q k)) (fop .add .f32 (hardV n L s q (k + 1)) (hardV n L s q k))
theorem stra_end {n : Nat} {L : Nat → Nat → Nat} {s q k a b x y z : Nat} (ha : Hid (nz .f32 a = hardV n L s q k)) (hb : Hid (nz .f32 b = hardV n L s q (k + 1))) (hx : Hid (nz .f32 x = fop .sub .f32 b a)) (hy : Hid (nz .f32 y = fop .add .f32 b a)) (hz : Hid (nz .f32 z = fop .quo .f32 x y)) : Hid (nz .f32 z = straV n L s q k) := by
  unfold Hid straV
  rw [hz.out, ← fop_nz_left .quo .f32 x, hx.out, ← fop_nz_right .quo .f32 _ y, hy.out, ← fop_nz_left .sub .f32 b, ← fop_nz_right .sub .f32 _ a, ← fop_nz_left .add .f32 b, ← fop_nz_right .add .f32 _ a, ha.out, hb.out]
theorem specHard_int (b : Nat) (A : Option Addr) (n c : Nat) (L : Nat → Nat → Nat) (s q : Nat) (k : Nat) (j : Int) (w : World) (hn : n ≤ 1048576) (hj : j = (k : Int)) (hk : k ≤ n) (hG : GBox w b A n c s q) (ha : LArg w A n L) :
    Calls Try.prog 87 #[.pointer (some ⟨b, 0, none⟩), .int .i64 j] w (RetF .f32 (hardV n L s q k) w) := by
  subst hj; exact specHard_any b A n c L s q k w hn hk hG ha
theorem implHard_int (A : Option Addr) (n c : Nat) (L : Nat → Nat → Nat) (s q : Nat) (j : Int) (w : World) (hn : n ≤ 1048576) (h0 : 0 ≤ j) (h1 : j ≤ (n : Int)) (ha : LArg w A n L) :
    Calls Try.prog 90 #[.agg #[.slice A n c, .float .f32 s, .float .f32 q], .int .i64 j] w (RetFW .f32 (hardV n L s q j.toNat) w) := by
  obtain ⟨k, rfl⟩ := Int.eq_ofNat_of_zero_le h0
  rw [Int.toNat_natCast]
  exact implHard_any A n c L s q k w hn (by omega) ha
set_option maxHeartbeats 1000000 in
set_option maxRecDepth 100000 in
theorem specStra_any (b : Nat) (A : Option Addr) (n c : Nat) (L : Nat → Nat → Nat) (s q : Nat) (k : Nat) (w : World) (hn : n ≤ 1048576) (hk : k < n) (hG : GBox w b A n c s q) (ha : LArg w A n L) :
    Calls Try.prog 96 #[.pointer (some ⟨b, 0, none⟩), .int .i64 k] w (RetF .f32 (straV n L s q k) w) := by
  have hkz : (k : Int) + 1 ≤ 1048576 := by omega
  have HA := hid ha
  have HG := hid hG
  have HN := hid hn
  have HK := hid hk
  clear ha hG hn
  go_enter Try.func96, Try.ntmps96
  go_wp2_with fail
  refine (specHard_int b A n c L s q k _ _ HN.out rfl (Nat.le_of_lt HK.out) HG.out HA.out).mono ?_
  rintro e w1 ⟨x, n1, rfl, hx, bx, rfl⟩
  go_wp2_with fail
  refine (specHard_int b A n c L s q (k + 1) ((k : Int) + 1) _ HN.out (by omega) HK.out (by exact ⟨HG.out.c0, HG.out.c1, HG.out.c2, HG.out.lt⟩) (by exact HA.out)).mono ?_
  rintro e w1 ⟨y, n2, rfl, hy, bY, rfl⟩
  go_wp2_with (first | (refine wpList_fop _ rfl .sub _ _ _ _ rfl rfl _ _ _ rfl rfl ?_; intro d md hd bd) | (refine wpList_fop _ rfl .add _ _ _ _ rfl rfl _ _ _ rfl rfl ?_; intro u mu hu bu) | (refine wpList_fop _ rfl .quo _ _ _ _ rfl rfl _ _ _ rfl rfl ?_; intro z mz hz bz))
  go_ret
  exact ⟨z, _, rfl, stra_end hx hy hd hu hz, bz, rfl⟩
set_option maxHeartbeats 1000000 in
set_option maxRecDepth 100000 in
theorem implStra_any (A : Option Addr) (n c : Nat) (L : Nat → Nat → Nat) (s q : Nat) (k : Nat) (w : World) (hn : n ≤ 1048576) (hk : k < n) (ha : LArg w A n L) :
    Calls Try.prog 97 #[.agg #[.slice A n c, .float .f32 s, .float .f32 q], .int .i64 k] w (RetFW .f32 (straV n L s q k) w) := by
  have hkz : (k : Int) + 1 ≤ 1048576 := by omega
  have hkn : (k : Int) + 1 ≤ (n : Int) := by omega
  have HN := hid hn
  have hbl := below_alloc1 w (.cells #[.slice A n c, .float .f32 s, .float .f32 q] 42)
  have XG := GBox.new w 42 A n c s q
  have HL := ha.below hbl
  have XGl := XG.lt
  have i1 : (0 : Int) ≤ (k : Int) := by omega
  have e1 : IntKind.i64.wrap ((k : Int) + 1) = (k : Int) + 1 := IntWalk.i64_in _ (by omega)
  have T1 : Hid (((k : Int) + 1).toNat = k + 1) := by unfold Hid; omega
  have T0 : Hid ((k : Int).toNat = k) := by unfold Hid; omega
  clear hn hk ha
  go_enter Try.func97, Try.ntmps97
  go_wp2_with fail
  have XGa := XG.c0
  have XGb := XG.c1
  have XGc := XG.c2
  go_region_held (fun w' => w'.cell? ⟨w.heap.size, 0, none⟩ = some (.slice A n c) ∧ w'.cell? ⟨w.heap.size, 1, none⟩ = some (.float .f32 s) ∧ w'.cell? ⟨w.heap.size, 2, none⟩ = some (.float .f32 q)) ((refine ⟨?_, ?_, ?_⟩ <;> first | assumption | exact (Below.cell (by assumption) (by assumption)).trans (by assumption))) ((go_at_call 90; refine (implHard_int A n c L s q _ _ HN.out (by omega) (by omega) (by assumption)).mono ?_; rintro e w1 ⟨v, rfl, hv, bv, B1⟩; have hbl := below_step hbl B1 rfl rfl rfl rfl; have HL := HL.below (below_self B1 rfl rfl rfl rfl); have XG := XG.below (below_self B1 rfl rfl rfl rfl); have XGa := XG.c0; have XGb := XG.c1; have XGc := XG.c2; have XGl := XG.lt))
  all_goals
    rename_i w9 y hY bY2 B9 hbl9 HL9 XG9 XGa9 XGb9 XGc9 XGl9 hh9
    have hx := hid (show nz .f32 y = hardV n L s q k by rw [hY.out, T0.out])
    have hy := hid (show nz .f32 v = hardV n L s q (k + 1) by rw [hv.out, T1.out])
    have HB := hid hbl
    clear hh9 XGa XGb XGc XG XGa9 XGb9 XGc9 XG9 B9 B1 hbl9 hbl HL9 HL
    go_wp2_with (first | (refine wpList_fop _ rfl .sub _ _ _ _ rfl rfl _ _ _ rfl rfl ?_; intro d md hd bd) | (refine wpList_fop _ rfl .add _ _ _ _ rfl rfl _ _ _ rfl rfl ?_; intro u mu hu bu) | (refine wpList_fop _ rfl .quo _ _ _ _ rfl rfl _ _ _ rfl rfl ?_; intro z mz hz bz))
    go_ret
    exact ⟨z, rfl, stra_end hx hy hd hu hz, bz, below_drewN HB.out _⟩
set_option maxHeartbeats 1000000 in
set_option maxRecDepth 100000 in
theorem specHardnessAt_any (A : Option Addr) (n c : Nat) (L : Nat → Nat → Nat) (s q : Nat) (k : Int) (w : World) (hn : n ≤ 1048576) (ha : LArg w A n L) :
    Calls Try.prog 37 #[.agg #[.slice A n c, .float .f32 s, .float .f32 q], .int .i64 k] w (RetFBW .f32 (finN (layerB n L s q k) (hardV n L s q k.toNat)) (layerB n L s q k && finB .f32 (hardV n L s q k.toNat)) w) := by
  have hbl := below_alloc1 w (.cells #[.slice A n c, .float .f32 s, .float .f32 q] 42)
  have HG := hid (GBox.new w 42 A n c s q)
  have HL := hid (ha.below hbl)
  have HN := hid hn
  clear ha hn
  cases hc : layerB n L s q k
  · have HC := hid hc
    have H : Hid (finN false (hardV n L s q k.toNat) = 0) := rfl
    clear hc
    go_enter Try.func37, Try.ntmps37
    go_wp2_with (go_at_call 85; refine (specLayer_any _ A n c L s q k _ HN.out HG.out HL.out).mono ?_; rintro e w1 ⟨rfl, n1, rfl⟩; rw [HC.out])
    go_ret2
    exact ⟨0, rfl, by rw [H.out]; exact nz_num (nanB_fin (finW_zero .f32)), hid32 (by decide), below_drewN hbl _⟩
  · obtain ⟨j, rfl, hj, _⟩ := layerB_iff hc
    have HJ := hid hj
    have HC := hid hc
    have T : Hid ((j : Int).toNat = j) := by unfold Hid; omega
    clear hc hj
    go_enter Try.func37, Try.ntmps37
    go_wp2_with (go_at_call 85; refine (specLayer_any _ A n c L s q _ _ HN.out HG.out HL.out).mono ?_; rintro e w1 ⟨rfl, n1, rfl⟩; rw [HC.out])
    refine (specHard_any _ A n c L s q j _ HN.out HJ.out (by exact ⟨HG.out.c0, HG.out.c1, HG.out.c2, HG.out.lt⟩) (by exact HL.out)).mono ?_
    rintro e w1 ⟨x, n2, rfl, hx, bx, rfl⟩
    go_wp2_with (go_at_call 86; refine (number_any x bx.out _).mono ?_; rintro e w1 ⟨v, n3, rfl, hv, bv, rfl⟩)
    go_ret2
    exact ⟨v, by rw [T.out, finB_of hx.out]; rfl, by rw [T.out, ← finN_of hx.out]; exact hv, bv, below_drewN hbl _⟩
set_option maxHeartbeats 1000000 in
set_option maxRecDepth 100000 in
theorem implHardnessAt_any (A : Option Addr) (n c : Nat) (L : Nat → Nat → Nat) (s q : Nat) (k : Int) (w : World) (hn : n ≤ 1048576) (ha : LArg w A n L) (bs : s < 2 ^ 32) (bq : q < 2 ^ 32) :
    Calls Try.prog 38 #[.agg #[.slice A n c, .float .f32 s, .float .f32 q], .int .i64 k] w (RetFBW .f32 (finN (layerB n L s q k) (hardV n L s q k.toNat)) (layerB n L s q k && finB .f32 (hardV n L s q k.toNat)) w) := by
  have hbl := below_alloc1 w (.cells #[.slice A n c, .float .f32 s, .float .f32 q] 42)
  have XG := GBox.new w 42 A n c s q
  have HL := ha.below hbl
  have HN := hid hn
  clear ha hn
  cases hc : layerB n L s q k
  · have HC := hid hc
    have H : Hid (finN false (hardV n L s q k.toNat) = 0) := rfl
    clear hc
    go_enter Try.func38, Try.ntmps38
    go_wp2_with fail
    refine (implLayer_any A n c L s q k _ HN.out (by exact HL) bs bq).mono ?_
    rintro e w1 ⟨rfl, B1⟩
    rw [HC.out]
    have hb := below_step hbl B1 rfl rfl rfl rfl
    clear B1 hbl
    go_wp2
    go_ret2
    exact ⟨0, rfl, by rw [H.out]; exact nz_num (nanB_fin (finW_zero .f32)), hid32 (by decide), hb⟩
  · obtain ⟨j, rfl, hj, _⟩ := layerB_iff hc
    have HJ := hid hj
    have HC := hid hc
    have T : Hid ((j : Int).toNat = j) := by unfold Hid; omega
    clear hc hj
    go_enter Try.func38, Try.ntmps38
    go_wp2_with fail
    refine (implLayer_any A n c L s q _ _ HN.out (by exact HL) bs bq).mono ?_
    rintro e w1 ⟨rfl, B1⟩
    rw [HC.out]
    have XG := XG.below B1
    have XGa := XG.c0
    have XGb := XG.c1
    have XGc := XG.c2
    have HL := HL.below B1
    have hb := below_step hbl B1 rfl rfl rfl rfl
    go_wp2_with fail
    refine (implHard_any A n c L s q j _ HN.out HJ.out (by exact HL)).mono ?_
    rintro e w2 ⟨x, rfl, hx, bx, B2⟩
    have hb2 := below_step hb B2 rfl rfl rfl rfl
    clear B1 B2 hb hbl XGa XGb XGc XG HL
    go_wp2_with (go_at_call 89; refine (finite_any x true bx.out _).mono ?_; rintro e w1 ⟨v, n3, rfl, hv, bv, rfl⟩)
    go_ret2
    exact ⟨v, by rw [T.out, finB_of hx.out]; rfl, by rw [T.out, ← finN_of hx.out]; exact hv, bv, below_drewN hb2 _⟩
set_option maxHeartbeats 1000000 in
set_option maxRecDepth 100000 in
theorem specReflectStraight_any (A : Option Addr) (n c : Nat) (L : Nat → Nat → Nat) (s q : Nat) (k : Int) (w : World) (hn : n ≤ 1048576) (ha : LArg w A n L) :
    Calls Try.prog 43 #[.agg #[.slice A n c, .float .f32 s, .float .f32 q], .int .i64 k] w (RetFBW .f32 (finN (boundB n L s q k) (straV n L s q k.toNat)) (boundB n L s q k && finB .f32 (straV n L s q k.toNat)) w) := by
  have hbl := below_alloc1 w (.cells #[.slice A n c, .float .f32 s, .float .f32 q] 42)
  have HG := hid (GBox.new w 42 A n c s q)
  have HL := hid (ha.below hbl)
  have HN := hid hn
  clear ha hn
  cases hc : boundB n L s q k
  · have HC := hid hc
    have H : Hid (finN false (straV n L s q k.toNat) = 0) := rfl
    clear hc
    go_enter Try.func43, Try.ntmps43
    go_wp2_with (go_at_call 91; refine (specBound_any _ A n c L s q k _ HN.out HG.out HL.out).mono ?_; rintro e w1 ⟨rfl, n1, rfl⟩; rw [HC.out])
    go_ret2
    exact ⟨0, rfl, by rw [H.out]; exact nz_num (nanB_fin (finW_zero .f32)), hid32 (by decide), below_drewN hbl _⟩
  · obtain ⟨j, rfl, hj, _⟩ := boundB_iff hc
    have HJ := hid hj
    have HC := hid hc
    have T : Hid ((j : Int).toNat = j) := by unfold Hid; omega
    clear hc hj
    go_enter Try.func43, Try.ntmps43
    go_wp2_with (go_at_call 91; refine (specBound_any _ A n c L s q _ _ HN.out HG.out HL.out).mono ?_; rintro e w1 ⟨rfl, n1, rfl⟩; rw [HC.out])
    refine (specStra_any _ A n c L s q j _ HN.out HJ.out (by exact ⟨HG.out.c0, HG.out.c1, HG.out.c2, HG.out.lt⟩) (by exact HL.out)).mono ?_
    rintro e w1 ⟨x, n2, rfl, hx, bx, rfl⟩
    go_wp2_with (go_at_call 86; refine (number_any x bx.out _).mono ?_; rintro e w1 ⟨v, n3, rfl, hv, bv, rfl⟩)
    go_ret2
    exact ⟨v, by rw [T.out, finB_of hx.out]; rfl, by rw [T.out, ← finN_of hx.out]; exact hv, bv, below_drewN hbl _⟩
set_option maxHeartbeats 1000000 in
set_option maxRecDepth 100000 in
theorem implReflectStraight_any (A : Option Addr) (n c : Nat) (L : Nat → Nat → Nat) (s q : Nat) (k : Int) (w : World) (hn : n ≤ 1048576) (ha : LArg w A n L) (bs : s < 2 ^ 32) (bq : q < 2 ^ 32) :
    Calls Try.prog 44 #[.agg #[.slice A n c, .float .f32 s, .float .f32 q], .int .i64 k] w (RetFBW .f32 (finN (boundB n L s q k) (straV n L s q k.toNat)) (boundB n L s q k && finB .f32 (straV n L s q k.toNat)) w) := by
  have hbl := below_alloc1 w (.cells #[.slice A n c, .float .f32 s, .float .f32 q] 42)
  have XG := GBox.new w 42 A n c s q
  have HL := ha.below hbl
  have HN := hid hn
  clear ha hn
  cases hc : boundB n L s q k
  · have HC := hid hc
    have H : Hid (finN false (straV n L s q k.toNat) = 0) := rfl
    clear hc
    go_enter Try.func44, Try.ntmps44
    go_wp2_with fail
    refine (implBound_any A n c L s q k _ HN.out (by exact HL) bs bq).mono ?_
    rintro e w1 ⟨rfl, B1⟩
    rw [HC.out]
    have hb := below_step hbl B1 rfl rfl rfl rfl
    clear B1 hbl
    go_wp2
    go_ret2
    exact ⟨0, rfl, by rw [H.out]; exact nz_num (nanB_fin (finW_zero .f32)), hid32 (by decide), hb⟩
  · obtain ⟨j, rfl, hj, _⟩ := boundB_iff hc
    have HJ := hid hj
    have HC := hid hc
    have T : Hid ((j : Int).toNat = j) := by unfold Hid; omega
    clear hc hj
    go_enter Try.func44, Try.ntmps44
    go_wp2_with fail
    refine (implBound_any A n c L s q _ _ HN.out (by exact HL) bs bq).mono ?_
    rintro e w1 ⟨rfl, B1⟩
    rw [HC.out]
    have XG := XG.below B1
    have XGa := XG.c0
    have XGb := XG.c1
    have XGc := XG.c2
    have HL := HL.below B1
    have hb := below_step hbl B1 rfl rfl rfl rfl
    go_wp2_with fail
    refine (implStra_any A n c L s q j _ HN.out HJ.out (by exact HL)).mono ?_
    rintro e w2 ⟨x, rfl, hx, bx, B2⟩
    have hb2 := below_step hb B2 rfl rfl rfl rfl
    clear B1 B2 hb hbl XGa XGb XGc XG HL
    go_wp2_with (go_at_call 89; refine (finite_any x true bx.out _).mono ?_; rintro e w1 ⟨v, n3, rfl, hv, bv, rfl⟩)
    go_ret2
    exact ⟨v, by rw [T.out, finB_of hx.out]; rfl, by rw [T.out, ← finN_of hx.out]; exact hv, bv, below_drewN hb2 _⟩
end Go.Proofs.Ytmomgaiondjinaa
