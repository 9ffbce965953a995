/- Speeds that lead to root speeds: of the reference and of the program. No condition. -/
import Derived.Test.YtmomgaiondjinaaLst
import Derived.Test.YtmomgaiondjinaaCut
namespace Go.Proofs.Ytmomgaiondjinaa.Fl
open Go Ieee
theorem narrow_fin {v K : Nat} (h : bdW double v K) (hK : K ≤ 1201) : finB .f32 (fcv .f64 .f32 v) = true := by
  have hd : FloatKind.f64.decode v = .number (sgW double v) (mgR double (rgW double v)) (double.leastPlace + exR double (rgW double v)) := read_fin double h.1
  have hu : mgR double (rgW double v) * 2 ^ exR double (rgW double v) ≤ 2 ^ K := h.2
  obtain ⟨A, hA⟩ : ∃ A, A = 276 := ⟨_, rfl⟩
  have hr : rung single (mgR double (rgW double v)) (double.leastPlace + exR double (rgW double v)) ≤ rungPow single A := by
    refine bd_rung single (q := double.leastPlace) (by omega) (by decide) (by rw [hA]; decide) (by rw [hA]; decide) ?_
    have e1 : (double.leastPlace + (exR double (rgW double v) : Int) - double.leastPlace).toNat = exR double (rgW double v) := by omega
    have e2 : (single.leastPlace - double.leastPlace).toNat = 925 := by decide
    rw [e1, e2]
    generalize hT : (925 : Nat) = T
    rw [← Nat.pow_add]
    exact Nat.le_trans hu (Nat.pow_le_pow_right (by omega) (by omega))
  have hlt : rungPow single A < single.infRung := rungPow_lt single (by rw [hA]; decide)
  have he : FloatKind.f32.encode (.number (sgW double v) (mgR double (rgW double v)) (double.leastPlace + exR double (rgW double v))) = single.word (sgW double v) (rung single (mgR double (rgW double v)) (double.leastPlace + exR double (rgW double v))) := nearest_eq ..
  have hf : finW single (single.word (sgW double v) (rung single (mgR double (rgW double v)) (double.leastPlace + exR double (rgW double v)))) := by
    unfold finW; rw [rgW_word _ _ (rung_lt_sw _ _ _)]; omega
  have hd2 : FloatKind.f32.decode (single.word (sgW double v) (rung single (mgR double (rgW double v)) (double.leastPlace + exR double (rgW double v)))) = _ := read_fin single hf
  have e : fcv .f64 .f32 v = single.word (sgW double v) (rung single (mgR double (rgW double v)) (double.leastPlace + exR double (rgW double v))) := by
    unfold fcv floatToFloatBits
    rw [if_neg (by decide), hd]
    simp only [he, hd2]
    rfl
  rw [e]
  exact decide_eq_true hf
theorem sqrt_none {v : Nat} (h : finW double v) (hs : double.sqrt v = none) : sgW double v = true ∧ unitsR double (rgW double v) ≠ 0 := by
  unfold Format.sqrt at hs
  rw [read_fin double h] at hs
  simp only [Datum.root] at hs
  by_cases hm0 : mgR double (rgW double v) = 0
  · simp [hm0] at hs
  · simp only [hm0, if_false] at hs
    refine ⟨?_, ?_⟩
    · cases hg : sgW double v
      · simp [hg] at hs
      · rfl
    · unfold unitsR
      rw [Nat.mul_ne_zero_iff]
      exact ⟨hm0, by have := Nat.two_pow_pos (exR double (rgW double v)); omega⟩
end Go.Proofs.Ytmomgaiondjinaa.Fl
namespace Go.Proofs.Ytmomgaiondjinaa
open Go.RowKit Go.Proofs.Ytmomgaiondjinaa.Fl
/-- The root of a finite number that is not less than 0 is finite. -/
theorem root_fin {x : Nat} (hf : finB .f32 x = true) (hl : ltB x 0 = false) : finB .f32 (rootV x) = true := by
  have hx : finW Ieee.single x := of_decide_eq_true hf
  have hv : nz .f64 (fcv .f32 .f64 x) = fcv .f32 .f64 x := nz_fcv x (by decide)
  have hb := bd_widen hx hv
  unfold rootV fsq
  rcases bd_sqrt (j := 10) hb (by omega) with h | ⟨r, h, hr⟩
  · exfalso
    obtain ⟨h1, h2⟩ := sqrt_none hb.1 h
    obtain ⟨r, e, hlt, hu⟩ := widen_fin hx
    generalize (925 : Nat) = T at hu
    have e2 : fcv .f32 .f64 x = Ieee.double.word (sgW Ieee.single x) r := by unfold fcv; rw [e]; rfl
    rw [e2] at h1 h2
    have hsw : r < Ieee.double.signWeight := Nat.lt_trans hlt Ieee.double.infRung_lt
    rw [sgW_word Ieee.double _ hsw] at h1
    rw [rgW_word Ieee.double _ hsw, hu] at h2
    have h3 : unitsR Ieee.single (rgW Ieee.single x) ≠ 0 := by
      intro h0; rw [h0, Nat.zero_mul] at h2; exact h2 rfl
    have h0 : finW Ieee.single 0 := finW_zero .f32
    have ho : FloatKind.f32.format.order x 0 = some (compare (valW Ieee.single x) (valW Ieee.single 0)) := order_fin Ieee.single hx h0
    have v0 : valW Ieee.single 0 = 0 := by decide +kernel
    have hneg : valW Ieee.single x < 0 := by unfold valW; rw [h1]; simp; omega
    unfold ltB at hl
    rw [ho, v0, (Int.compare_eq_lt).2 hneg] at hl
    exact absurd hl (by decide)
  · rw [h]
    exact narrow_fin hr (by omega)
def rqV (V U : Nat → Nat) (k : Nat) : Nat := fop .mul .f32 (fop .mul .f32 (V k) (V k)) (U k)
def rsV (V U : Nat → Nat) : Nat → Nat
  | 0 => 0
  | k + 1 => rqV V U k
def rtV (U : Nat → Nat) : Nat → Nat
  | 0 => 0
  | k + 1 => nz .f32 (U k)
def raV (V U : Nat → Nat) (k : Nat) : Nat := fop .quo .f32 (fop .sub .f32 (rqV V U k) (rsV V U k)) (fop .sub .f32 (U k) (rtV U k))
def rokB (V U : Nat → Nat) (k : Nat) : Bool := finB .f32 (raV V U k) && !ltB (raV V U k) 0
def roksB (n : Nat) (V U : Nat → Nat) : Bool := (List.range n).all (rokB V U)
theorem roks_of {n : Nat} {V U : Nat → Nat} (h : ∀ j, j < n → rokB V U j = true) : roksB n V U = true := by
  unfold roksB; rw [List.all_eq_true]; intro x hx; exact h x (List.mem_range.1 hx)
theorem roks_no {n k : Nat} {V U : Nat → Nat} (hk : k < n) (h : rokB V U k = false) : roksB n V U = false := by
  unfold roksB; rw [List.all_eq_false]; exact ⟨k, List.mem_range.2 hk, by rw [h]; decide⟩
theorem rok_step {k : Nat} {V U : Nat → Nat} (h : ∀ j, j < k → rokB V U j = true) (hk : rokB V U k = true) : ∀ j, j < k + 1 → rokB V U j = true := fun j hj => by
  by_cases e : j = k
  · rw [e]; exact hk
  · exact h j (by omega)
def rtE (V U : Nat → Nat) (k : Nat) : Nat := rootV (raV V U k)
theorem rts_fin {n : Nat} {V U : Nat → Nat} (h : ∀ j, j < n → rokB V U j = true) : allFin n (rtE V U) = true := allFin_of fun j hj => by
  have := h j hj
  unfold rokB at this
  simp only [Bool.and_eq_true, Bool.not_eq_true'] at this
  exact root_fin this.1 this.2
def rtOk (la lb : Nat) (V U : Nat → Nat) : Bool := decide (1 ≤ la ∧ la ≤ 12 ∧ la = lb) && roksB la V U
theorem rtOk_no {la lb : Nat} {V U : Nat → Nat} (h : ¬ (1 ≤ la ∧ la ≤ 12 ∧ la = lb)) : rtOk la lb V U = false := by unfold rtOk; rw [decide_eq_false h]; rfl
theorem rtOk_yes {la : Nat} {V U : Nat → Nat} (h1 : 1 ≤ la) (h2 : la ≤ 12) : rtOk la la V U = roksB la V U := by unfold rtOk; rw [decide_eq_true ⟨h1, h2, rfl⟩]; rfl
theorem fop_E2 {op : BinOp} {x y z X Y : Nat} (hz : nz .f32 z = fop op .f32 x y) (hx : nz .f32 x = X) (hy : nz .f32 y = Y) : nz .f32 z = fop op .f32 X Y := by
  rw [hz, ← hx, ← hy, fop_nz_left, fop_nz_right]
theorem rq_end {V U : Nat → Nat} {k x u y z : Nat} (hx : Hid (x = V k)) (hu : Hid (u = U k)) (hy : Hid (nz .f32 y = fop .mul .f32 x x)) (hz : Hid (nz .f32 z = fop .mul .f32 y u)) : Hid (nz .f32 z = rqV V U k) := by
  unfold Hid rqV; rw [hz.out, ← fop_nz_left .mul .f32 y, hy.out, hx.out, hu.out]
theorem ra_end {V U : Nat → Nat} {k u q s t d e z : Nat} (hu : Hid (u = U k)) (hq : Hid (nz .f32 q = rqV V U k)) (hs : Hid (nz .f32 s = rsV V U k)) (ht : Hid (nz .f32 t = rtV U k)) (hd : Hid (nz .f32 d = fop .sub .f32 q s)) (he : Hid (nz .f32 e = fop .sub .f32 u t)) (hz : Hid (nz .f32 z = fop .quo .f32 d e)) : Hid (nz .f32 z = raV V U k) := by
  refine fop_E2 hz.out (fop_E2 hd.out hq.out hs.out) ?_
  rw [he.out, ← fop_nz_right .sub .f32 _ t, ht.out, hu.out]
theorem rt_next {U : Nat → Nat} {k u : Nat} (hu : Hid (u = U k)) : Hid (nz .f32 u = rtV U (k + 1)) := by unfold Hid; rw [hu.out]; rfl
theorem rt_root {V U : Nat → Nat} {k z r : Nat} (hz : Hid (nz .f32 z = raV V U k)) (hr : Hid (nz .f32 r = rootV z)) : Hid (nz .f32 r = rtE V U k) := by
  unfold Hid rtE; rw [hr.out, ← rootV_nz, hz.out]
theorem lt0_of {z E : Nat} (h : nz .f32 z = E) : ltB z 0 = ltB E 0 := by unfold ltB; rw [← h, order_nz_left]
theorem rok_of {V U : Nat → Nat} {k z : Nat} (h : Hid (nz .f32 z = raV V U k)) : rokB V U k = (finB .f32 z && !ltB z 0) := by unfold rokB; rw [fin_E h.out, lt0_of h.out]
theorem zero_num : Hid (nz .f32 0 = 0) := nz_num (nanB_fin (finW_zero .f32))
theorem lengthF_any (A : Option Addr) (n c : Nat) (w : World) :
    Calls Try.prog 69 #[.slice A n c] w fun e w' => e = .returned (.int .i64 n) ∧ w = w' := by
  go_enter Try.func69, Try.ntmps69
  go_wp2
  go_ret
  exact ⟨rfl, rfl⟩
set_option maxHeartbeats 2000000 in
set_option maxRecDepth 100000 in
theorem specRts_any (A B : Option Addr) (la ca lb cb : Nat) (V U : Nat → Nat) (w : World) (hla : la ≤ 1048576) (hlb : lb ≤ 1048576) (ha : FArg w A la V) (hb : FArg w B lb U) :
    Calls Try.prog 26 #[.slice A la ca, .slice B lb cb] w (RetLB (lstN la (rtOk la lb V U)) (rtE V U) (rtOk la lb V U) w) := by
  have HA := hid ha
  have HB := hid hb
  clear ha hb
  by_cases h1 : 1 ≤ la
  · by_cases h2 : la ≤ 12
    · by_cases h3 : la = lb
      · subst h3
        rw [rtOk_yes h1 h2]
        have H1 := hid h1
        have t1 : decide ((la : Int) < 1) = false := decide_eq_false (by omega)
        have t2 : decide (12 < (la : Int)) = false := decide_eq_false (by omega)
        have t3 : decide (1 ≤ (la : Int)) = true := decide_eq_true (by omega)
        have t4 : decide ((la : Int) ≤ 12) = true := decide_eq_true (by omega)
        have HN := hid hla
        go_enter Try.func26, Try.ntmps26
        go_wp2
        have HO0 := hid (OwnsF.made w w.heap.size (rtE V U) (Nat.le_refl _))
        have hb0 := below_alloc1 w (.cells #[] 23)
        go_loopw [6, 7, 8, 9] (fun S T l i wr => ∃ k s t : Nat, k ≤ la ∧ i = .int .i64 k ∧ S = .float .f32 s ∧ T = .float .f32 t ∧ Hid (nz .f32 s = rsV V U k) ∧ Hid (nz .f32 t = rtV U k) ∧ Hid (∀ j, j < k → rokB V U j = true) ∧ Hid (OwnsF wr w.heap.size l k (rtE V U)) ∧ Below w.heap.size w wr) (fun _ _ _ i _ => la - (intOf i).toNat)
        case atStart => exact ⟨0, 0, 0, Nat.zero_le _, rfl, rfl, rfl, zero_num, zero_num, fun j hj => absurd hj (Nat.not_lt_zero _), HO0, hb0⟩
        case round =>
          obtain ⟨k, s, t, hk, rfl, rfl, rfl, hs, ht, hall, HO, hbw⟩ := hrel
          have hsz := hbw.size
          by_cases hlt : k < la
          · obtain ⟨a, rfl, hab, c10, _⟩ := HA.out k hlt
            obtain ⟨b, rfl, hbb, c20, _⟩ := HB.out k hlt
            obtain ⟨x, hx⟩ : ∃ x, x = V k := ⟨_, rfl⟩
            obtain ⟨u, hu⟩ : ∃ u, u = U k := ⟨_, rfl⟩
            rw [← hx] at c10
            rw [← hu] at c20
            have HX := hid hx
            have HU := hid hu
            have hab2 : (a.add k).block < w.heap.size := by rw [addb]; exact hab
            have hbb2 : (b.add k).block < w.heap.size := by rw [addb]; exact hbb
            have c1 := (hbw.cell (p := a.add k) hab2).trans c10
            have c2 := (hbw.cell (p := b.add k) hbb2).trans c20
            have C20 := hid c20
            clear hx hu c10 c20
            have i1 : (0 : Int) ≤ (k : Int) := by omega
            have i2 : (k : Int) < (la : Int) := by omega
            go_wp2_with fail
            go_region_held (fun w' => w'.cell? (a.add k) = some (.float .f32 x) ∧ w'.cell? (b.add k) = some (.float .f32 u)) (go_keep) (first | (refine upon_fop .mul rfl _ _ x x ?_; intro y m1 h1 b1) | (refine upon_fop .mul rfl _ _ y u ?_; intro q m2 h2 bq))
            all_goals
              have hq := rq_end HX HU h1 h2
              go_wp2_with (first | (refine wpList_fop _ rfl .sub _ _ (.tmp 48) (.tmp 49) rfl rfl _ _ _ rfl rfl ?_; intro d m3 h3 b3) | (refine wpList_fop _ rfl .sub _ _ (.tmp 54) (.tmp 55) rfl rfl _ _ _ rfl rfl ?_; intro e m4 h4 b4) | (refine wpList_fop _ rfl .quo _ _ (.tmp 50) (.tmp 56) rfl rfl _ _ _ rfl rfl ?_; intro z m5 h5 bz))
              have hz := ra_end HU hq hs ht h3 h4 h5
              have q1 := ltB_is z 0
              cases hfz : finB .f32 z
              ·
                have HT := hid (roks_no (V := V) (U := U) hlt (by rw [rok_of hz, hfz]; rfl))
                have HF := hid hfz
                clear hfz
                refine (specFinite_any _ _).mono ?_; rintro e9 w9 ⟨rfl, n9, rfl⟩
                rw [HF.out]
                go_wp2
                go_ret2
                rw [HT.out]
                exact RetLB.of_none rfl (below_drewN hbw _)
              · cases hlz : ltB z 0
                · rw [hlz] at q1
                  have hok : rokB V U k = true := by rw [rok_of hz, hfz, hlz]; rfl
                  have HT := hid (rok_step hall.out hok)
                  have HF := hid hfz
                  clear hok hfz hlz
                  refine (specFinite_any _ _).mono ?_; rintro e9 w9 ⟨rfl, n9, rfl⟩
                  rw [HF.out]
                  go_wp2_with (first | (go_at_call 67; refine (specRoot_any _ bz.out _).mono ?_; rintro e8 w8 ⟨r, n8, rfl, hr, br, rfl⟩; have HV := rt_root hz hr) | (at_builtin; refine wpList_appF rfl (.tmp 65) (.tmp 68) rfl w.heap.size _ k (rtE V U) rfl (by exact HO.out.alloc _) _ r rfl (by first | exact cell_new1 _ _ _ | exact cell_new2 _ _ _ _ _) HV.out br.out (by omega) (by exact Nat.le_trans hsz (size_alloc _ _)) ?_; intro v' w' HN' hbN; have hb9 := hbN _ w (Nat.le_refl _) (below_grow1 (below_drewN hbw _) _); have c3 := (hb9.cell (p := b.add k) hbb2).trans C20.out))
                  go_roundw
                  case rel => exact ⟨k + 1, q, u, by omega, by go_num, rfl, rfl, hq, rt_next HU, HT, HN', hb9⟩
                  case measure => simp [intOf]; omega
                · rw [hlz] at q1
                  have HT := hid (roks_no (V := V) (U := U) hlt (by rw [rok_of hz, hlz]; simp))
                  have HF := hid hfz
                  clear hfz hlz
                  refine (specFinite_any _ _).mono ?_; rintro e9 w9 ⟨rfl, n9, rfl⟩
                  rw [HF.out]
                  go_wp2
                  go_ret2
                  rw [HT.out]
                  exact RetLB.of_none rfl (below_drewN hbw _)
          · obtain rfl : k = la := by omega
            have HT := hid (roks_of hall.out)
            have HFn := hid (rts_fin hall.out)
            obtain ⟨A', cap, rfl, hA'⟩ := HO.out.own
            have HA' := hid hA'
            clear hA'
            go_wp2
            go_ret2
            rw [HT.out]
            exact ⟨A', cap, rfl, HA'.out, hbw⟩
      · rw [rtOk_no (fun h => h3 h.2.2)]
        have t1 : decide ((la : Int) < 1) = false := decide_eq_false (by omega)
        have t2 : decide (12 < (la : Int)) = false := decide_eq_false (by omega)
        have t3 : decide (1 ≤ (la : Int)) = true := decide_eq_true (by omega)
        have t4 : decide ((la : Int) ≤ 12) = true := decide_eq_true (by omega)
        have n1 : ((lb : Int) == (la : Int)) = false := by simp; omega
        have n2 : ((la : Int) == (lb : Int)) = false := by simp; omega
        have n3 : ((lb : Int) != (la : Int)) = true := by simp; omega
        have n4 : ((la : Int) != (lb : Int)) = true := by simp; omega
        go_enter Try.func26, Try.ntmps26
        go_wp2
        go_ret2
        exact RetLB.of_none rfl (Below.refl _ _)
    · rw [rtOk_no (fun h => h2 h.2.1)]
      have t1 : decide ((la : Int) < 1) = false := decide_eq_false (by omega)
      have t2 : decide (12 < (la : Int)) = true := decide_eq_true (by omega)
      have t3 : decide (1 ≤ (la : Int)) = true := decide_eq_true (by omega)
      have t4 : decide ((la : Int) ≤ 12) = false := decide_eq_false (by omega)
      go_enter Try.func26, Try.ntmps26
      go_wp2
      go_ret2
      exact RetLB.of_none rfl (Below.refl _ _)
  · rw [rtOk_no (fun h => h1 h.1)]
    have t1 : decide ((la : Int) < 1) = true := decide_eq_true (by omega)
    have t3 : decide (1 ≤ (la : Int)) = false := decide_eq_false (by omega)
    go_enter Try.func26, Try.ntmps26
    go_wp2
    go_ret2
    exact RetLB.of_none rfl (Below.refl _ _)
set_option maxHeartbeats 2000000 in
set_option maxRecDepth 100000 in
theorem implRts_any (A B : Option Addr) (la ca lb cb : Nat) (V U : Nat → Nat) (w : World) (hla : la ≤ 1048576) (hlb : lb ≤ 1048576) (ha : FArg w A la V) (hb : FArg w B lb U) :
    Calls Try.prog 27 #[.slice A la ca, .slice B lb cb] w (RetLB (lstN la (rtOk la lb V U)) (rtE V U) (rtOk la lb V U) w) := by
  have HA := hid ha
  have HB := hid hb
  clear ha hb
  by_cases h1 : 1 ≤ la
  · by_cases h2 : la ≤ 12
    · by_cases h3 : la = lb
      · subst h3
        rw [rtOk_yes h1 h2]
        have H1 := hid h1
        have t1 : decide ((la : Int) < 1) = false := decide_eq_false (by omega)
        have t2 : decide (12 < (la : Int)) = false := decide_eq_false (by omega)
        have t3 : decide (1 ≤ (la : Int)) = true := decide_eq_true (by omega)
        have t4 : decide ((la : Int) ≤ 12) = true := decide_eq_true (by omega)
        have HN := hid hla
        go_enter Try.func27, Try.ntmps27
        go_wp2_with (first | (go_at_call 69; refine (lengthF_any _ _ _ _).mono ?_; rintro e w1 ⟨rfl, rfl⟩) | (go_at_call 68; refine (within_any _ _ _ _).mono ?_; rintro e w1 ⟨rfl, rfl⟩))
        have HO0 := hid (OwnsF.nil w w.heap.size (rtE V U))
        have hb0 := Below.refl w.heap.size w
        go_loopw [6, 7, 8, 26] (fun l T S i wr => ∃ k s t : Nat, k ≤ la ∧ i = .int .i64 k ∧ S = .float .f32 s ∧ T = .float .f32 t ∧ Hid (nz .f32 s = rsV V U k) ∧ Hid (nz .f32 t = rtV U k) ∧ Hid (∀ j, j < k → rokB V U j = true) ∧ Hid (OwnsF wr w.heap.size l k (rtE V U)) ∧ Below w.heap.size w wr) (fun _ _ _ i _ => la - (intOf i).toNat)
        case atStart => exact ⟨0, 0, 0, Nat.zero_le _, rfl, rfl, rfl, zero_num, zero_num, fun j hj => absurd hj (Nat.not_lt_zero _), HO0, hb0⟩
        case round =>
          obtain ⟨k, s, t, hk, rfl, rfl, rfl, hs, ht, hall, HO, hbw⟩ := hrel
          have hsz := hbw.size
          by_cases hlt : k < la
          · obtain ⟨a, rfl, hab, c10, _⟩ := HA.out k hlt
            obtain ⟨b, rfl, hbb, c20, _⟩ := HB.out k hlt
            obtain ⟨x, hx⟩ : ∃ x, x = V k := ⟨_, rfl⟩
            obtain ⟨u, hu⟩ : ∃ u, u = U k := ⟨_, rfl⟩
            rw [← hx] at c10
            rw [← hu] at c20
            have HX := hid hx
            have HU := hid hu
            have hab2 : (a.add k).block < w.heap.size := by rw [addb]; exact hab
            have hbb2 : (b.add k).block < w.heap.size := by rw [addb]; exact hbb
            have c1 := (hbw.cell (p := a.add k) hab2).trans c10
            have c2 := (hbw.cell (p := b.add k) hbb2).trans c20
            have C20 := hid c20
            clear hx hu c10 c20
            have i1 : (0 : Int) ≤ (k : Int) := by omega
            have i2 : (k : Int) < (la : Int) := by omega
            go_wp2_with (first | (refine wpList_fop _ rfl .mul _ _ (.tmp 31) (.tmp 32) rfl rfl _ _ _ rfl rfl ?_; intro y m1 h1 b1) | (refine wpList_fop _ rfl .mul _ _ (.tmp 33) (.tmp 37) rfl rfl _ _ _ rfl rfl ?_; intro q m2 h2 bq; have hq := rq_end HX HU h1 h2) | (refine wpList_fop _ rfl .sub _ _ (.tmp 39) (.tmp 40) rfl rfl _ _ _ rfl rfl ?_; intro d m3 h3 b3) | (refine wpList_fop _ rfl .sub _ _ (.tmp 45) (.tmp 46) rfl rfl _ _ _ rfl rfl ?_; intro e m4 h4 b4) | (refine wpList_fop _ rfl .quo _ _ (.tmp 41) (.tmp 47) rfl rfl _ _ _ rfl rfl ?_; intro z m5 h5 bz; have hz := ra_end HU hq hs ht h3 h4 h5; have q1 := ltB_is z 0))
            · rename_i hlz
              have HT := hid (roks_no (V := V) (U := U) hlt (by rw [rok_of hz, hlz]; simp))
              go_ret2
              rw [HT.out]
              exact RetLB.of_none rfl (below_drewN hbw _)
            · rename_i hlz0 K hK
              have hlz : ltB z 0 = false := by simpa using hlz0
              clear hlz0
              cases hfz : finB .f32 z
              ·
                have HT := hid (roks_no (V := V) (U := U) hlt (by rw [rok_of hz, hfz]; rfl))
                have HF := hid hfz
                clear hfz
                refine (implIsFinite_any _ bz.out _).mono ?_; rintro e9 w9 ⟨rfl, n9, rfl⟩
                rw [HF.out]
                go_wp2
                go_ret2
                rw [HT.out]
                exact RetLB.of_none rfl (below_drewN hbw _)
              ·
                have hok : rokB V U k = true := by rw [rok_of hz, hfz, hlz]; rfl
                have HT := hid (rok_step hall.out hok)
                have HF := hid hfz
                clear hok hfz hlz
                refine (implIsFinite_any _ bz.out _).mono ?_; rintro e9 w9 ⟨rfl, n9, rfl⟩
                rw [HF.out]
                go_wp2_with (first | (go_at_call 71; refine (implRoot_any _ bz.out _).mono ?_; rintro e8 w8 ⟨r, n8, rfl, hr, br, rfl⟩; have HV := rt_root hz hr) | (at_builtin; refine wpList_appF rfl (.tmp 56) (.tmp 59) rfl w.heap.size _ k (rtE V U) rfl (by exact HO.out.alloc _) _ r rfl (by first | exact cell_new1 _ _ _ | exact cell_new2 _ _ _ _ _) HV.out br.out (by omega) (by exact Nat.le_trans hsz (size_alloc _ _)) ?_; intro v' w' HN' hbN; have hb9 := hbN _ w (Nat.le_refl _) (below_grow1 (below_drewN hbw _) _); have c3 := (hb9.cell (p := b.add k) hbb2).trans C20.out))
                go_roundw
                case rel => exact ⟨k + 1, q, u, by omega, by go_num, rfl, rfl, hq, rt_next HU, HT, HN', hb9⟩
                case measure => simp [intOf]; omega
          · obtain rfl : k = la := by omega
            have HT := hid (roks_of hall.out)
            have HFn := hid (rts_fin hall.out)
            obtain ⟨A', cap, rfl, hA'⟩ := HO.out.own
            have HA' := hid hA'
            clear hA'
            go_wp2_with fail
            refine (finiteList_yes A' k cap _ (rtE V U) _ H1.out HN.out HA'.out).mono ?_
            rintro e w2 ⟨B2, cap2, m2, rfl, HF2, rfl⟩
            rw [HFn.out] at HF2 ⊢
            go_wp2
            go_ret2
            rw [HT.out]
            exact ⟨B2, cap2, rfl, HF2.out.drewN _, below_drewN hbw _⟩
      · rw [rtOk_no (fun h => h3 h.2.2)]
        have t1 : decide ((la : Int) < 1) = false := decide_eq_false (by omega)
        have t2 : decide (12 < (la : Int)) = false := decide_eq_false (by omega)
        have t3 : decide (1 ≤ (la : Int)) = true := decide_eq_true (by omega)
        have t4 : decide ((la : Int) ≤ 12) = true := decide_eq_true (by omega)
        have n1 : ((lb : Int) == (la : Int)) = false := by simp; omega
        have n2 : ((la : Int) == (lb : Int)) = false := by simp; omega
        have n3 : ((lb : Int) != (la : Int)) = true := by simp; omega
        have n4 : ((la : Int) != (lb : Int)) = true := by simp; omega
        go_enter Try.func27, Try.ntmps27
        go_wp2_with (first | (go_at_call 69; refine (lengthF_any _ _ _ _).mono ?_; rintro e w1 ⟨rfl, rfl⟩) | (go_at_call 68; refine (within_any _ _ _ _).mono ?_; rintro e w1 ⟨rfl, rfl⟩))
        go_ret2
        exact RetLB.of_none rfl (Below.refl _ _)
    · rw [rtOk_no (fun h => h2 h.2.1)]
      have t1 : decide ((la : Int) < 1) = false := decide_eq_false (by omega)
      have t2 : decide (12 < (la : Int)) = true := decide_eq_true (by omega)
      have t3 : decide (1 ≤ (la : Int)) = true := decide_eq_true (by omega)
      have t4 : decide ((la : Int) ≤ 12) = false := decide_eq_false (by omega)
      go_enter Try.func27, Try.ntmps27
      go_wp2_with (first | (go_at_call 69; refine (lengthF_any _ _ _ _).mono ?_; rintro e w1 ⟨rfl, rfl⟩) | (go_at_call 68; refine (within_any _ _ _ _).mono ?_; rintro e w1 ⟨rfl, rfl⟩))
      go_ret2
      exact RetLB.of_none rfl (Below.refl _ _)
  · rw [rtOk_no (fun h => h1 h.1)]
    have t1 : decide ((la : Int) < 1) = true := decide_eq_true (by omega)
    have t3 : decide (1 ≤ (la : Int)) = false := decide_eq_false (by omega)
    go_enter Try.func27, Try.ntmps27
    go_wp2_with (first | (go_at_call 69; refine (lengthF_any _ _ _ _).mono ?_; rintro e w1 ⟨rfl, rfl⟩) | (go_at_call 68; refine (within_any _ _ _ _).mono ?_; rintro e w1 ⟨rfl, rfl⟩))
    go_ret2
    exact RetLB.of_none rfl (Below.refl _ _)
end Go.Proofs.Ytmomgaiondjinaa
