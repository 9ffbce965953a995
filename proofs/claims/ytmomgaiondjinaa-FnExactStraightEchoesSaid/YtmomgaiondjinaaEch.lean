/- What comes back of each boundary: of the reference and of the program. No condition. -/
import Derived.Test.YtmomgaiondjinaaLst
import Derived.Test.YtmomgaiondjinaaStra
namespace Go.Proofs.Ytmomgaiondjinaa
open Go.RowKit Go.Proofs.Ytmomgaiondjinaa.Fl
def keepV (L : Nat → Nat → Nat) (k : Nat) : Nat := fop .sub .f32 1065353216 (L k 3)
def downOf (t k : Nat) : Nat := fop .mul .f32 (fop .mul .f32 t k) k
def leftOf (d r : Nat) : Nat := fop .mul .f32 d (fop .sub .f32 1065353216 (fop .mul .f32 r r))
def leftV (n : Nat) (L : Nat → Nat → Nat) (s q : Nat) : Nat → Nat
  | 0 => 1065353216
  | k + 1 => leftOf (downOf (leftV n L s q k) (keepV L k)) (straV n L s q k)
def downV (n : Nat) (L : Nat → Nat → Nat) (s q : Nat) (k : Nat) : Nat := downOf (leftV n L s q k) (keepV L k)
def echE (n : Nat) (L : Nat → Nat → Nat) (s q : Nat) (k : Nat) : Nat := fop .mul .f32 (straV n L s q k) (downV n L s q k)
theorem fop_E {op : BinOp} {x y z X Y : Nat} (hz : nz .f32 z = fop op .f32 x y) (hx : nz .f32 x = X) (hy : nz .f32 y = Y) : nz .f32 z = fop op .f32 X Y := by
  rw [hz, ← hx, ← hy, fop_nz_left, fop_nz_right]
theorem fop_R {op : BinOp} {x y z Y : Nat} (hz : nz .f32 z = fop op .f32 x y) (hy : nz .f32 y = Y) : nz .f32 z = fop op .f32 x Y := by
  rw [hz, ← hy, fop_nz_right]
theorem down_end {n : Nat} {L : Nat → Nat → Nat} {s q k t x kp y z kq : Nat} (ht : Hid (nz .f32 t = leftV n L s q k)) (hx : Hid (x = L k 3)) (hk : Hid (nz .f32 kp = fop .sub .f32 1065353216 x)) (hy : Hid (nz .f32 y = fop .mul .f32 t kp)) (hq : Hid (nz .f32 kq = fop .sub .f32 1065353216 x)) (hz : Hid (nz .f32 z = fop .mul .f32 y kq)) : Hid (nz .f32 z = downV n L s q k) := by
  have e1 : nz .f32 kp = keepV L k := by rw [hk.out, hx.out]; rfl
  have e2 : nz .f32 kq = keepV L k := by rw [hq.out, hx.out]; rfl
  exact fop_E hz.out (fop_E hy.out ht.out e1) e2
theorem ech_end {n : Nat} {L : Nat → Nat → Nat} {s q k r d z : Nat} (hr : Hid (nz .f32 r = straV n L s q k)) (hd : Hid (nz .f32 d = downV n L s q k)) (hz : Hid (nz .f32 z = fop .mul .f32 r d)) : Hid (nz .f32 z = echE n L s q k) := fop_E hz.out hr.out hd.out
theorem left_end {n : Nat} {L : Nat → Nat → Nat} {s q k r d m u z : Nat} (hr : Hid (nz .f32 r = straV n L s q k)) (hd : Hid (nz .f32 d = downV n L s q k)) (hm : Hid (nz .f32 m = fop .mul .f32 r r)) (hu : Hid (nz .f32 u = fop .sub .f32 1065353216 m)) (hz : Hid (nz .f32 z = fop .mul .f32 d u)) : Hid (nz .f32 z = leftV n L s q (k + 1)) := fop_E hz.out hd.out (fop_R hu.out (fop_E hm.out hr.out hr.out))
theorem one_num : Hid (nz .f32 1065353216 = 1065353216) := by unfold Hid; decide +kernel
theorem OwnsF.mono {w : World} {B : Nat} {v : Value} {k : Nat} {E : Nat → Nat} (h : OwnsF w B v k E) (m : Nat) : OwnsF (w.drewN m) B v k E := h
set_option maxHeartbeats 2000000 in
set_option maxRecDepth 100000 in
theorem specStraightEchoes_any (A : Option Addr) (n c : Nat) (L : Nat → Nat → Nat) (s q : Nat) (w : World) (hn : n ≤ 1048576) (ha : LArg w A n L) :
    Calls Try.prog 55 #[.agg #[.slice A n c, .float .f32 s, .float .f32 q]] w (RetLB (lstN n (lsOk n L s q (echE n L s q))) (echE n L s q) (lsOk n L s q (echE n L s q)) w) := by
  have hnz : (n : Int) ≤ 1048576 := by omega
  have hbl := below_alloc1 w (.cells #[.slice A n c, .float .f32 s, .float .f32 q] 42)
  have HG := hid (GBox.new w 42 A n c s q)
  have HL := hid (ha.below hbl)
  have HN := hid hn
  clear ha hn
  cases hc : validB n L s q
  · have HC := hid hc
    rw [lsOk_no hc]
    clear hc
    go_enter Try.func55, Try.ntmps55
    go_wp2_with (go_at_call 80; refine (specIs_any _ A n c L s q _ HN.out HG.out.c0 HG.out.c1 HG.out.c2 HL.out).mono ?_; rintro e w1 ⟨rfl, n1, rfl⟩; rw [HC.out])
    go_ret2
    exact RetLB.of_none rfl (below_drewN hbl _)
  · have HC := hid hc
    rw [lsOk_yes hc]
    clear hc
    have he : ∀ m, (((w.alloc (.cells #[.slice A n c, .float .f32 s, .float .f32 q] 42)).drewN m).heap.size) = w.heap.size + 1 := fun m => by show (w.alloc _).heap.size = _; simp
    have HE := hid he
    clear he
    go_enter Try.func55, Try.ntmps55
    go_wp2_with (go_at_call 80; refine (specIs_any _ A n c L s q _ HN.out HG.out.c0 HG.out.c1 HG.out.c2 HL.out).mono ?_; rintro e w1 ⟨rfl, n1, rfl⟩; rw [HC.out])
    have HO0 := OwnsF.made ((w.alloc (.cells #[.slice A n c, .float .f32 s, .float .f32 q] 42)).drewN n1) (w.alloc (.cells #[.slice A n c, .float .f32 s, .float .f32 q] 42)).heap.size (echE n L s q) (Nat.le_refl _)
    rw [show OwnsF _ _ (.slice (some ⟨((w.alloc (.cells #[.slice A n c, .float .f32 s, .float .f32 q] 42)).drewN n1).heap.size, 0, none⟩) 0 0) _ _ = OwnsF _ _ (.slice (some ⟨w.heap.size + 1, 0, none⟩) 0 0) _ _ by rw [HE.out]] at HO0
    have HO0 := hid HO0
    have hb0 := below_grow1 (below_drewN (Below.refl (w.alloc (.cells #[.slice A n c, .float .f32 s, .float .f32 q] 42)).heap.size _) n1) (.cells #[] 23)
    have XGa := HG.out.c0
    go_loopw [4, 5, 6] (fun T l i wr => ∃ k t : Nat, k ≤ n ∧ i = .int .i64 k ∧ T = .float .f32 t ∧ Hid (nz .f32 t = leftV n L s q k) ∧ Hid (t < 2 ^ FloatKind.f32.format.width) ∧ Hid (OwnsF wr (w.alloc (.cells #[.slice A n c, .float .f32 s, .float .f32 q] 42)).heap.size l k (echE n L s q)) ∧ Below (w.alloc (.cells #[.slice A n c, .float .f32 s, .float .f32 q] 42)).heap.size (w.alloc (.cells #[.slice A n c, .float .f32 s, .float .f32 q] 42)) wr) (fun _ _ i _ => n - (intOf i).toNat)
    case atStart => exact ⟨0, _, Nat.zero_le _, rfl, rfl, one_num, by unfold Hid; decide, HO0, hb0⟩
    case round =>
      obtain ⟨k, t, hk, rfl, rfl, ht, bt, HO, hbw⟩ := hrel
      have hsz := hbw.size
      have XGr := (hbw.cell (p := ⟨w.heap.size, 0, none⟩) HG.out.lt).trans XGa
      by_cases hlt : k < n
      · obtain ⟨ab, ao, x0, x1, x2, x3, rfl, hab, c0, c1, c2, c3, e0, e1, e2, e3, _, _, _, _⟩ := (HL.out.below hbw).get hlt
        have HX := hid e3
        have HK := hid hlt
        clear e0 e1 e2 e3 c0 c1 c2
        have i1 : (0 : Int) ≤ (k : Int) := by omega
        have i2 : (k : Int) < (n : Int) := by omega
        go_wp2_with (first | (refine wpList_fop _ rfl .sub _ _ _ (.tmp 24) rfl rfl _ _ _ rfl rfl ?_; intro kp m1 h1 b1) | (refine wpList_fop _ rfl .mul _ _ (.tmp 26) (.tmp 27) rfl rfl _ _ _ rfl rfl ?_; intro y m2 h2 b2) | (refine wpList_fop _ rfl .mul _ _ (.tmp 28) (.tmp 29) rfl rfl _ _ _ rfl rfl ?_; intro d m3 h3 b3; have hd := down_end ht HX h1 h2 h1 h3))
        go_wp2_with fail
        have hGr := HG.out.below hbw
        refine (specStra_any _ _ n c L s q k _ HN.out HK.out (by exact ⟨hGr.c0, hGr.c1, hGr.c2, hGr.lt⟩) (by exact HL.out.below (below_drewN hbw _))).mono ?_
        rintro e w1 ⟨r, n2, rfl, hr, br, rfl⟩
        clear hGr
        go_wp2_with (first | (refine wpList_fop _ rfl .mul _ _ (.tmp 34) (.tmp 35) rfl rfl _ _ _ rfl rfl ?_; intro v m4 h4 bv; have HV := ech_end hr hd h4) | (at_builtin; refine wpList_appF rfl (.tmp 33) (.tmp 37) rfl (w.alloc (.cells #[.slice (some ⟨ab, ao, none⟩) n c, .float .f32 s, .float .f32 q] 42)).heap.size _ k (echE n L s q) rfl (by exact HO.out.alloc _) _ v rfl (by first | exact cell_new1 _ _ _ | exact cell_new2 _ _ _ _ _) HV.out bv.out (by omega) (by exact Nat.le_trans hsz (size_alloc _ _)) ?_; intro v' w' HN' hbN) | (refine wpList_fop _ rfl .mul _ _ (.tmp 40) (.tmp 41) rfl rfl _ _ _ rfl rfl ?_; intro m m5 h5 b5) | (refine wpList_fop _ rfl .sub _ _ _ (.tmp 42) rfl rfl _ _ _ rfl rfl ?_; intro u m6 h6 b6) | (refine wpList_fop _ rfl .mul _ _ (.tmp 39) (.tmp 43) rfl rfl _ _ _ rfl rfl ?_; intro z m7 h7 b7; have hz := left_end hr hd h5 h6 h7))
        have hb9 := hbN _ (w.alloc (.cells #[.slice (some ⟨ab, ao, none⟩) n c, .float .f32 s, .float .f32 q] 42)) (Nat.le_refl _) (below_grow1 (below_drewN hbw _) _)
        go_wp2
        go_roundw
        case rel => exact ⟨k + 1, z, by omega, by go_num, rfl, hz, b7, HN', below_drewN hb9 _⟩
        case measure => simp [intOf]; omega
      · obtain rfl : k = n := by omega
        obtain ⟨A', cap, rfl, hA'⟩ := HO.out.own
        have HA' := hid hA'
        clear hA'
        go_wp2_with fail
        refine (specList_any A' k cap _ (echE k L s q) _ HN.out HA'.out).mono ?_
        rintro e w2 ⟨B2, cap2, m2, rfl, HF2, rfl⟩
        go_wp2
        go_ret2
        exact ⟨B2, cap2, rfl, (HF2.out.drewN _).mono hbl.size, below_drewN (below_step hbl hbw rfl rfl rfl rfl) _⟩
set_option maxHeartbeats 2000000 in
set_option maxRecDepth 100000 in
theorem implStraightEchoes_any (A : Option Addr) (n c : Nat) (L : Nat → Nat → Nat) (s q : Nat) (w : World) (hn : n ≤ 1048576) (ha : LArg w A n L) (bs : s < 2 ^ 32) (bq : q < 2 ^ 32) :
    Calls Try.prog 56 #[.agg #[.slice A n c, .float .f32 s, .float .f32 q]] w (RetLB (lstN n (lsOk n L s q (echE n L s q))) (echE n L s q) (lsOk n L s q (echE n L s q)) w) := by
  have hnz : (n : Int) ≤ 1048576 := by omega
  have hbl := below_alloc1 w (.cells #[.slice A n c, .float .f32 s, .float .f32 q] 42)
  have XG := GBox.new w 42 A n c s q
  have HL := ha.below hbl
  have HN := hid hn
  clear ha hn
  cases hc : validB n L s q
  · have HC := hid hc
    rw [lsOk_no hc]
    clear hc
    go_enter Try.func56, Try.ntmps56
    go_wp2_with fail
    refine (implValid_any A n c L s q _ HN.out (by exact HL) bs bq).mono ?_
    rintro e w1 ⟨rfl, B1⟩
    rw [HC.out]
    have hb := below_step hbl B1 rfl rfl rfl rfl
    clear B1 hbl
    go_wp2
    go_ret2
    exact RetLB.of_none rfl hb
  · have HC := hid hc
    rw [lsOk_yes hc]
    have H1 := hid (validB_iff hc).1
    clear hc
    go_enter Try.func56, Try.ntmps56
    go_wp2_with fail
    refine (implValid_any A n c L s q _ HN.out (by exact HL) bs bq).mono ?_
    rintro e w1 ⟨rfl, B1⟩
    rw [HC.out]
    have HG := hid (XG.below B1)
    have HL := hid (HL.below B1)
    have hb := below_step hbl B1 rfl rfl rfl rfl
    clear B1 hbl XG
    have XGa := HG.out.c0
    have HO0 := hid (OwnsF.nil w1 w1.heap.size (echE n L s q))
    have hb0 := Below.refl w1.heap.size w1
    go_wp2
    go_loopw [4, 5, 15] (fun l T i wr => ∃ k t : Nat, k ≤ n ∧ i = .int .i64 k ∧ T = .float .f32 t ∧ Hid (nz .f32 t = leftV n L s q k) ∧ Hid (t < 2 ^ FloatKind.f32.format.width) ∧ Hid (OwnsF wr w1.heap.size l k (echE n L s q)) ∧ Below w1.heap.size w1 wr) (fun _ _ i _ => n - (intOf i).toNat)
    case atStart => exact ⟨0, _, Nat.zero_le _, rfl, rfl, one_num, by unfold Hid; decide, HO0, hb0⟩
    case round =>
      obtain ⟨k, t, hk, rfl, rfl, ht, bt, HO, hbw⟩ := hrel
      have hsz := hbw.size
      have hGr := HG.out.below hbw
      have XGr := hGr.c0
      have XGs := hGr.c1
      have XGq := hGr.c2
      have XGl := hGr.lt
      have hxx := XGa
      clear XGa
      by_cases hlt : k < n
      · obtain ⟨ab, ao, x0, x1, x2, x3, rfl, hab, c0, c1, c2, c3, e0, e1, e2, e3, _, _, _, _⟩ := (HL.out.below hbw).get hlt
        have HX := hid e3
        have HK := hid hlt
        clear e0 e1 e2 e3 hxx
        have i1 : (0 : Int) ≤ (k : Int) := by omega
        have i2 : (k : Int) < (n : Int) := by omega
        go_wp2_with (first | (refine wpList_fop _ rfl .sub _ _ _ (.tmp 22) rfl rfl _ _ _ rfl rfl ?_; intro kp m1 h1 b1) | (refine wpList_fop _ rfl .mul _ _ (.tmp 20) (.tmp 23) rfl rfl _ _ _ rfl rfl ?_; intro y m2 h2 b2) | (refine wpList_fop _ rfl .sub _ _ _ (.tmp 26) rfl rfl _ _ _ rfl rfl ?_; intro kq m3 h3 b3) | (refine wpList_fop _ rfl .mul _ _ (.tmp 24) (.tmp 27) rfl rfl _ _ _ rfl rfl ?_; intro d m4 h4 b4; have hd := down_end ht HX h1 h2 h3 h4))
        go_wp2_with fail
        refine (implStra_any _ n c L s q k _ HN.out HK.out (by exact HL.out.below (below_drewN (below_grow1 hbw (.cells #[.float .f32 x0, .float .f32 x1, .float .f32 x2, .float .f32 x3] 70)) _))).mono ?_
        rintro e w2 ⟨r, rfl, hr, br, B2⟩
        have hbw2 := below_step (below_grow1 hbw (.cells #[.float .f32 x0, .float .f32 x1, .float .f32 x2, .float .f32 x3] 70)) B2 rfl rfl rfl rfl
        have HO2 := hid (OwnsF.grown (HO.out.alloc (.cells #[.float .f32 x0, .float .f32 x1, .float .f32 x2, .float .f32 x3] 70)) (below_self B2 rfl rfl rfl rfl))
        have hsz2 := hbw2.size
        clear B2 hGr XGr XGs XGq XGl c0 c1 c2 c3
        go_wp2_with (first | (refine wpList_fop _ rfl .mul _ _ (.tmp 33) (.tmp 34) rfl rfl _ _ _ rfl rfl ?_; intro v m5 h5 bv; have HV := ech_end hr hd h5) | (at_builtin; refine wpList_appF rfl (.tmp 32) (.tmp 36) rfl w1.heap.size _ k (echE n L s q) rfl (by exact HO2.out.alloc _) _ v rfl (by first | exact cell_new1 _ _ _ | exact cell_new2 _ _ _ _ _) HV.out bv.out (by omega) (by exact Nat.le_trans hsz2 (size_alloc _ _)) ?_; intro v' w' HN' hbN) | (refine wpList_fop _ rfl .mul _ _ (.tmp 39) (.tmp 40) rfl rfl _ _ _ rfl rfl ?_; intro m m6 h6 b6) | (refine wpList_fop _ rfl .sub _ _ _ (.tmp 41) rfl rfl _ _ _ rfl rfl ?_; intro u m7 h7 b7) | (refine wpList_fop _ rfl .mul _ _ (.tmp 38) (.tmp 42) rfl rfl _ _ _ rfl rfl ?_; intro z m8 h8 b8; have hz := left_end hr hd h6 h7 h8))
        have hb9 := hbN _ w1 (Nat.le_refl _) (below_grow1 (below_drewN hbw2 _) _)
        go_wp2
        go_roundw
        case rel => exact ⟨k + 1, z, by omega, by go_num, rfl, hz, b8, HN', below_drewN hb9 _⟩
        case measure => simp [intOf]; omega
      · obtain rfl : k = n := by omega
        obtain ⟨A', cap, rfl, hA'⟩ := HO.out.own
        have HA' := hid hA'
        clear hA' hGr XGr XGs XGq XGl hxx
        go_wp2_with fail
        refine (finiteList_yes A' k cap _ (echE k L s q) _ H1.out HN.out HA'.out).mono ?_
        rintro e w2 ⟨B2, cap2, m2, rfl, HF2, rfl⟩
        go_wp2
        go_ret2
        exact ⟨B2, cap2, rfl, (HF2.out.drewN _).mono hb.size, below_drewN (below_step hb hbw rfl rfl rfl rfl) _⟩
end Go.Proofs.Ytmomgaiondjinaa
