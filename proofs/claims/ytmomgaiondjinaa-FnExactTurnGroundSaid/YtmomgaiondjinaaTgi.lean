/- A ground with other thicknesses and speeds: the program's. No condition. -/
import Derived.Test.YtmomgaiondjinaaTg
namespace Go.Proofs.Ytmomgaiondjinaa
open Go.RowKit Go.Proofs.Ytmomgaiondjinaa.Fl
theorem FBox.put {w : World} {b : Nat} {A : Option Addr} {n c s q : Nat} (f : FBox w b A n c s q) (A' : Option Addr) (n' c' s' q' : Nat) :
    FBox (((w.setCell ⟨b, 0, none⟩ (.slice A' n' c')).setCell ⟨b, 1, none⟩ (.float .f32 s')).setCell ⟨b, 2, none⟩ (.float .f32 q')) b A' n' c' s' q' := by
  have ne : ∀ a b' : Nat, a ≠ b' → (⟨b, a, none⟩ : Addr) ≠ ⟨b, b', none⟩ := fun a b h e => h (by injection e)
  refine ⟨?_, ?_, ?_, fun i => by simp only [World.frozen?_setCell]; exact f.frz i, by simpa [World.setCell] using f.lt⟩
  · rw [World.cell?_setCell_other _ _ _ _ (ne _ _ (by omega)), World.cell?_setCell_other _ _ _ _ (ne _ _ (by omega))]
    exact World.cell?_setCell_same _ _ _ f.c0
  · rw [World.cell?_setCell_other _ _ _ _ (ne _ _ (by omega))]
    refine World.cell?_setCell_same _ _ _ (u := .float .f32 s) ?_
    rw [World.cell?_setCell_other _ _ _ _ (ne _ _ (by omega))]; exact f.c1
  · refine World.cell?_setCell_same _ _ _ (u := .float .f32 q) ?_
    rw [World.cell?_setCell_other _ _ _ _ (ne _ _ (by omega)), World.cell?_setCell_other _ _ _ _ (ne _ _ (by omega))]; exact f.c2
set_option maxHeartbeats 4000000 in
set_option maxRecDepth 100000 in
theorem implTurnGround_any (A : Option Addr) (n c : Nat) (L : Nat → Nat → Nat) (s q p : Nat) (w : World) (hn : n ≤ 1048576) (ha : LArg w A n L) (bs : s < 2 ^ 32) (bq : q < 2 ^ 32) (bp : p < 2 ^ 32) :
    Calls Try.prog 53 #[.agg #[.slice A n c, .float .f32 s, .float .f32 q], .float .f32 p] w (RetG (lstN n (tgOk n L s q p)) (tgX L p) (lstN (mulV s p) (tgOk n L s q p)) (lstN q (tgOk n L s q p)) (tgOk n L s q p) w) := by
  have hnz : (n : Int) ≤ 1048576 := by omega
  have hZ : (w.alloc (.cells #[.slice A n c, .float .f32 s, .float .f32 q] 42)).heap.size = w.heap.size + 1 := by simp
  have hbl := below_grow1 (below_alloc1 w (.cells #[.slice A n c, .float .f32 s, .float .f32 q] 42)) (.cells #[.slice none 0 0, .float .f32 0, .float .f32 0] 42)
  have XG := (GBox.new w 42 A n c s q).below (below_alloc1 _ (.cells #[.slice none 0 0, .float .f32 0, .float .f32 0] 42))
  have XR := FBox.new (w.alloc (.cells #[.slice A n c, .float .f32 s, .float .f32 q] 42)) 42 none 0 0 0 0
  rw [show FBox _ (w.alloc (.cells #[.slice A n c, .float .f32 s, .float .f32 q] 42)).heap.size none 0 0 0 0 = FBox _ (w.heap.size + 1) none 0 0 0 0 by rw [hZ]] at XR
  have HL := ha.below hbl
  have HN := hid hn
  have HZ := hid hZ
  clear hn hZ
  cases hv : validB n L s q
  · have HV := hid hv
    have H : tgOk n L s q p = false := by unfold tgOk; rw [hv]; rfl
    rw [H]
    clear hv H
    go_enter Try.func53, Try.ntmps53
    go_wp2_with fail
    refine (implValid_any A n c L s q _ HN.out (by exact HL) bs bq).mono ?_
    rintro e w1 ⟨rfl, B1⟩
    rw [HV.out]
    have hb := below_step hbl B1 rfl rfl rfl rfl
    have XR := XR.below (below_self B1 rfl rfl rfl rfl)
    obtain ⟨r0, r1, r2, r3, r4⟩ := id XR
    have r30 := r3 0
    have r31 := r3 1
    have r32 := r3 2
    clear r3 B1 hbl
    go_wp2
    refine bodyPost_ret (v := .tuple #[.agg #[.slice none 0 0, .float .f32 0, .float .f32 0], .bool false]) (by simp [results, Try.results53, go_sem, r0, r1, r2]) rfl (RetG.of_none rfl ?_)
    exact ((hb.setCell (Nat.le_succ _) _).setCell (Nat.le_succ _) _).setCell (Nat.le_succ _) _
  · have HV := hid hv
    have HP2 := hid (valid_pos hv)
    have H1 := hid (validB_iff hv).1
    cases hp : posB p
    · have HP := hid (show [p].all posB = false by simp [hp])
      have H : tgOk n L s q p = false := by unfold tgOk; rw [hv, hp]; rfl
      rw [H]
      clear hv H hp
      go_enter Try.func53, Try.ntmps53
      go_wp2_with fail
      refine (implValid_any A n c L s q _ HN.out (by exact HL) bs bq).mono ?_
      rintro e w1 ⟨rfl, B1⟩
      rw [HV.out]
      have hb := below_step hbl B1 rfl rfl rfl rfl
      have XR := XR.below (below_self B1 rfl rfl rfl rfl)
      clear B1 hbl
      have HF := hid (fcells1 w1 w1.heap.size rfl 23 p bp)
      go_wp2_with fail
      refine (arePositive_any _ 0 1 [p] _ (len1 _) (by exact HF.out)).mono ?_
      rintro e w2 ⟨rfl, n2, rfl⟩
      rw [HP.out]
      have XR := (XR.below (below_alloc1 w1 (.cells #[.float .f32 p] 23))).drewN n2
      have hb := below_up' hb (.cells #[.float .f32 p] 23)
      obtain ⟨r0, r1, r2, r3, r4⟩ := id XR
      have r30 := r3 0
      have r31 := r3 1
      have r32 := r3 2
      clear r3
      go_wp2
      refine bodyPost_ret (v := .tuple #[.agg #[.slice none 0 0, .float .f32 0, .float .f32 0], .bool false]) (by simp [results, Try.results53, go_sem, r0, r1, r2]) rfl (RetG.of_none rfl ?_)
      exact ((below_drewN hb n2 |>.setCell (Nat.le_succ _) _).setCell (Nat.le_succ _) _).setCell (Nat.le_succ _) _
    · have HP := hid (show [p].all posB = true by simp [hp])
      have H : tgOk n L s q p = validB n (tgX L p) (mulV s p) q := by unfold tgOk; rw [hv, hp]; rfl
      rw [H]
      have qs := run_mul HP2.out.1 hp 23 Try.prog
      clear hv H
      go_enter Try.func53, Try.ntmps53
      go_wp2_with fail
      refine (implValid_any A n c L s q _ HN.out (by exact HL) bs bq).mono ?_
      rintro e w1 ⟨rfl, B1⟩
      rw [HV.out]
      have hb := below_step hbl B1 rfl rfl rfl rfl
      have XR := XR.below (below_self B1 rfl rfl rfl rfl)
      have XG := XG.below (below_self B1 rfl rfl rfl rfl)
      have HL := HL.below (below_self B1 rfl rfl rfl rfl)
      clear B1 hbl
      have HF := hid (fcells1 w1 w1.heap.size rfl 23 p bp)
      go_wp2_with fail
      refine (arePositive_any _ 0 1 [p] _ (len1 _) (by exact HF.out)).mono ?_
      rintro e w2 ⟨rfl, n2, rfl⟩
      rw [HP.out]
      obtain ⟨W, hW⟩ : ∃ W, W = (w1.alloc (.cells #[.float .f32 p] 23)).drewN n2 := ⟨_, rfl⟩
      have XR := (XR.below (below_alloc1 w1 (.cells #[.float .f32 p] 23))).drewN n2
      have XG := XG.below (below_alloc1 w1 (.cells #[.float .f32 p] 23))
      have XG : GBox ((w1.alloc (.cells #[.float .f32 p] 23)).drewN n2) w.heap.size A n c s q := ⟨XG.c0, XG.c1, XG.c2, XG.lt⟩
      have HL : LArg ((w1.alloc (.cells #[.float .f32 p] 23)).drewN n2) A n L := HL.below (below_drewN (below_alloc1 w1 (.cells #[.float .f32 p] 23)) n2)
      have hb := below_drewN (below_up' hb (.cells #[.float .f32 p] 23)) n2
      rw [← hW] at XR XG HL hb ⊢
      clear hW HF
      have XGa := XG.c0
      have XGb := XG.c1
      have XGc := XG.c2
      have lG := XG.lt
      have HA := hid HL
      have HAz := hid (HL.below (below_alloc1 W (.cells #[.slice none 0 0, .float .f32 0, .float .f32 0] 42)))
      clear HL
      have HXt := hid (FBox.new W 42 none 0 0 0 0)
      have nGW' : W.heap.size ≠ w.heap.size := by omega
      have nGW : w.heap.size ≠ W.heap.size := by omega
      go_wp2_with fail
      go_region_held (fun w' => w'.cell? ⟨w.heap.size, 0, none⟩ = some (.slice A n c) ∧ w'.cell? ⟨w.heap.size, 1, none⟩ = some (.float .f32 s) ∧ w'.cell? ⟨w.heap.size, 2, none⟩ = some (.float .f32 q)) (first | go_keep | (refine ⟨?_, ?_, ?_⟩ <;> first | assumption | exact (Below.cell (by assumption) (by assumption)).trans (by assumption))) ((go_at_call 107; refine (clone_any A n c L _ H1.out HN.out (by first | exact HA.out | exact HAz.out)).mono ?_; rintro e wc ⟨g, cap, rfl, HO⟩; (first | have hWc : Below W.heap.size W wc := below_self HO.out.below rfl rfl rfl rfl | (have hWc : Below W.heap.size W wc := below_step (below_alloc1 W (.cells #[.slice none 0 0, .float .f32 0, .float .f32 0] 42)) HO.out.below rfl rfl rfl rfl; have XT := HXt.out.below (below_self HO.out.below rfl rfl rfl rfl); obtain ⟨s0, s1, s2, s3, s4⟩ := id XT; have s30 := s3 0; have s31 := s3 1; have s32 := s3 2; clear s3)); obtain ⟨t0, t1, t2, t3⟩ := XG.below hWc))
      all_goals go_wp2
      all_goals
        have lW := XR.lt
        have XRc := XR.below hWc
        have hbc := below_step hb hWc rfl rfl rfl rfl
        have bg := HO.out.lt
      · have lg : W.heap.size ≤ g := HO.out.lo
        have hZc : W.heap.size ≤ wc.heap.size := hWc.size
        have XB := FBox.new wc 42 (some ⟨g, 0, none⟩) n cap (mulV s p) q
        have XRT := XRc.below (below_alloc1 wc (.cells #[.slice (some ⟨g, 0, none⟩) n cap, .float .f32 (mulV s p), .float .f32 q] 42))
        have ROW0 := HO.out.row.of_block ((below_alloc1 wc (.cells #[.slice (some ⟨g, 0, none⟩) n cap, .float .f32 (mulV s p), .float .f32 q] 42)).block g bg)
        have hbT := below_up' hbc (.cells #[.slice (some ⟨g, 0, none⟩) n cap, .float .f32 (mulV s p), .float .f32 q] 42)
        have glt := Nat.lt_of_lt_of_le bg (size_alloc wc (.cells #[.slice (some ⟨g, 0, none⟩) n cap, .float .f32 (mulV s p), .float .f32 q] 42))
        have ngb : g ≠ wc.heap.size := by omega
        have lb : w.heap.size + 1 < wc.heap.size := by omega
        generalize wc.alloc (.cells #[.slice (some ⟨g, 0, none⟩) n cap, .float .f32 (mulV s p), .float .f32 q] 42) = wT at XB XRT ROW0 hbT glt ⊢
        generalize wc.heap.size = b6 at XB ngb lb ⊢
        have GG := hid (And.intro XB (And.intro XRT (And.intro ROW0 (And.intro hbT (And.intro glt (And.intro ngb (And.intro lb (show w.heap.size + 1 < g by omega))))))))
        clear XB XRT ROW0 hbT glt ngb lb XR XRc hbc bg lW hWc lg hZc t0 t1 t2 t3 HO XG XGa XGb XGc lG HA HAz HXt nGW nGW' hb
        have T0 : Hid (TgRow wT wT g n 0 L p) := by
          refine ⟨?_, OnlyIn.refl _ _ _, GG.out.2.2.2.2.1⟩
          rw [tgK_zero]; exact GG.out.2.2.1
        have ngb := GG.out.2.2.2.2.2.1
        have lb := GG.out.2.2.2.2.2.2.1
        have lg := GG.out.2.2.2.2.2.2.2
        have HB2 := hid (And.intro (mulV_lt HP2.out.1 hp) bq)
        go_loopw [31] (fun i wr => ∃ k : Nat, k ≤ n ∧ i = .int .i64 k ∧ Hid (TgRow wT wr g n k L p)) (fun i _ => n - (intOf i).toNat)
        case atStart => exact ⟨0, Nat.zero_le _, rfl, T0⟩
        case round =>
          obtain ⟨k, hk, rfl, hT⟩ := hrel
          have hd : b6 < g ∨ g + 1 ≤ b6 := by omega
          have XB := GG.out.1.only hT.out.only hd
          have XBc := XB.c0
          by_cases hlt : k < n
          · obtain ⟨x0, hx0⟩ : ∃ x, x = L k 0 := ⟨_, rfl⟩
            obtain ⟨x1, hx1⟩ : ∃ x, x = L k 1 := ⟨_, rfl⟩
            obtain ⟨p0, p1⟩ := HP2.out.2 k hlt
            rw [← hx0] at p0
            rw [← hx1] at p1
            have q0 := run_mul p0 hp 23 Try.prog
            have q1 := run_mul p1 hp 23 Try.prog
            have l0 := mulV_lt p0 hp
            have l1 := mulV_lt p1 hp
            have HN' := hid (hT.out.step hlt (by rw [← hx0]; exact l0) (by rw [← hx1]; exact l1))
            rw [← hx0, ← hx1] at HN'
            obtain ⟨r0, hr0⟩ : ∃ r, r = mulV x0 p := ⟨_, rfl⟩
            obtain ⟨r1, hr1⟩ : ∃ r, r = mulV x1 p := ⟨_, rfl⟩
            rw [← hr0, ← hr1] at HN'
            rw [← hr0] at q0
            rw [← hr1] at q1
            have c0 := hT.out.row.cell k 0 hlt (by omega)
            have c1 := hT.out.row.cell k 1 hlt (by omega)
            have e0 : tgK L p k k 0 = x0 := by unfold tgK; rw [if_neg (Nat.lt_irrefl _), hx0]
            have e1 : tgK L p k k 1 = x1 := by unfold tgK; rw [if_neg (Nat.lt_irrefl _), hx1]
            rw [e0, Nat.add_zero] at c0
            rw [e1] at c1
            have f0 := hT.out.row.frz (k * 4)
            have f1 := hT.out.row.frz (k * 4 + 1)
            have XB1 := XB.set (p := ⟨g, k * 4, none⟩) (fun e => ngb e.symm) (.float .f32 r0)
            have XBd := XB1.c0
            have c1' : (wr.setCell ⟨g, k * 4, none⟩ (.float .f32 r0)).cell? ⟨g, k * 4 + 1, none⟩ = some (.float .f32 x1) := by
              rw [World.cell?_setCell_other _ _ _ _ (fun e => by injection e; omega)]; exact c1
            have f1' : (wr.setCell ⟨g, k * 4, none⟩ (.float .f32 r0)).frozen? ⟨g, k * 4 + 1, none⟩ = false := by simp only [World.frozen?_setCell]; exact f1
            have i1 : (0 : Int) ≤ (k : Int) := by omega
            have i2 : (k : Int) < (n : Int) := by omega
            clear hx0 hx1 hr0 hr1 p0 p1 l0 l1 e0 e1 XB XB1
            go_wp2
            go_roundw
            case rel => exact ⟨k + 1, by omega, by go_num, by first | exact HN' | exact HN'.out.same rfl rfl rfl rfl⟩
            case measure => simp [intOf]; omega
          · obtain rfl : k = n := by omega
            have ROW2 := hid (row_done hT.out.row)
            have XR := GG.out.2.1.only hT.out.only (.inl lg)
            have hb4 := below_only GG.out.2.2.2.1 hT.out.only (by omega) rfl rfl rfl rfl
            have gl := hT.out.lt
            have XBs := XB.c1
            have XBq := XB.c2
            have HXB := hid XB
            have HXR := hid XR
            clear XB XR qs
            cases hv2 : validB k (tgX L p) (mulV s p) q
            all_goals
              have HV2 := hid hv2
              clear hv2
              go_wp2_with fail
              refine (implValid_any (some ⟨g, 0, none⟩) k cap (tgX L p) (mulV s p) q _ HN.out (by exact ROW2.out.arg gl) HB2.out.1 HB2.out.2).mono ?_
              rintro e w5 ⟨rfl, B5⟩
              rw [HV2.out]
              have hb5 := below_step hb4 B5 rfl rfl rfl rfl
              obtain ⟨b0, b1, b2, b3, b4⟩ := HXB.out.below (below_self B5 rfl rfl rfl rfl)
              obtain ⟨r0, r1, r2, r3, r4⟩ := HXR.out.below (below_self B5 rfl rfl rfl rfl)
              have r30 := r3 0
              have r31 := r3 1
              have r32 := r3 2
              have ROW5 := hid (ROW2.out.of_block ((below_self B5 rfl rfl rfl rfl).block g gl))
              have gl5 := Nat.lt_of_lt_of_le gl (below_self B5 rfl rfl rfl rfl).size
              clear r3 b3 B5 XBc XBs XBq
              go_wp2
            · refine bodyPost_ret (v := .tuple #[.agg #[.slice none 0 0, .float .f32 0, .float .f32 0], .bool false]) (by simp [results, Try.results53, go_sem, r0, r1, r2]) rfl ?_
              rw [HV2.out]
              refine RetG.of_none rfl ?_
              exact ((hb5.setCell (Nat.le_succ _) _).setCell (Nat.le_succ _) _).setCell (Nat.le_succ _) _
            · have ng : g ≠ w.heap.size + 1 := by omega
              refine bodyPost_ret (v := .tuple #[.agg #[.slice (some ⟨g, 0, none⟩) k cap, .float .f32 (mulV s p), .float .f32 q], .bool true]) (by simp [results, Try.results53, go_sem, r0, r1, r2]) rfl ?_
              rw [HV2.out]
              refine ⟨some ⟨g, 0, none⟩, cap, rfl, ?_, ?_⟩
              · refine fun _ => ⟨g, rfl, by omega, by simpa [World.setCell] using gl5, ?_⟩
                exact ((ROW5.out.set ng _).set ng _).set ng _
              · exact ((hb5.setCell (Nat.le_succ _) _).setCell (Nat.le_succ _) _).setCell (Nat.le_succ _) _
      · have hZs : (W.alloc (.cells #[.slice none 0 0, .float .f32 0, .float .f32 0] 42)).heap.size = W.heap.size + 1 := by simp
        have lg0 : (W.alloc (.cells #[.slice none 0 0, .float .f32 0, .float .f32 0] 42)).heap.size ≤ g := HO.out.lo
        have lg : W.heap.size + 1 ≤ g := by rw [hZs] at lg0; exact lg0
        have XB := XT.put (some ⟨g, 0, none⟩) n cap (mulV s p) q
        have nR : w.heap.size + 1 ≠ W.heap.size := by omega
        have nG : g ≠ W.heap.size := by omega
        have XRT := ((XRc.set (p := ⟨W.heap.size, 0, none⟩) nR (.slice (some ⟨g, 0, none⟩) n cap)).set (p := ⟨W.heap.size, 1, none⟩) nR (.float .f32 (mulV s p))).set (p := ⟨W.heap.size, 2, none⟩) nR (.float .f32 q)
        have ROW0 := ((HO.out.row.set (p := ⟨W.heap.size, 0, none⟩) nG (.slice (some ⟨g, 0, none⟩) n cap)).set (p := ⟨W.heap.size, 1, none⟩) nG (.float .f32 (mulV s p))).set (p := ⟨W.heap.size, 2, none⟩) nG (.float .f32 q)
        have lww : w.heap.size ≤ W.heap.size := by omega
        have hbT := ((hbc.setCell (p := ⟨W.heap.size, 0, none⟩) lww (.slice (some ⟨g, 0, none⟩) n cap)).setCell (p := ⟨W.heap.size, 1, none⟩) lww (.float .f32 (mulV s p))).setCell (p := ⟨W.heap.size, 2, none⟩) lww (.float .f32 q)
        have glt : g < (((wc.setCell ⟨W.heap.size, 0, none⟩ (.slice (some ⟨g, 0, none⟩) n cap)).setCell ⟨W.heap.size, 1, none⟩ (.float .f32 (mulV s p))).setCell ⟨W.heap.size, 2, none⟩ (.float .f32 q)).heap.size := by simpa [World.setCell] using bg
        generalize (((wc.setCell ⟨W.heap.size, 0, none⟩ (.slice (some ⟨g, 0, none⟩) n cap)).setCell ⟨W.heap.size, 1, none⟩ (.float .f32 (mulV s p))).setCell ⟨W.heap.size, 2, none⟩ (.float .f32 q)) = wT at XB XRT ROW0 hbT glt ⊢
        generalize W.heap.size = b6 at XB nG lW ⊢
        have GG := hid (And.intro XB (And.intro XRT (And.intro ROW0 (And.intro hbT (And.intro glt (And.intro nG (And.intro lW (show w.heap.size + 1 < g by omega))))))))
        clear XB XRT ROW0 hbT glt nR XR XRc hbc bg lW nG lww hWc lg lg0 hZs t0 t1 t2 t3 s0 s1 s2 s4 s30 s31 s32 XT HO XG XGa XGb XGc lG HA HAz HXt nGW nGW' hb
        have T0 : Hid (TgRow wT wT g n 0 L p) := by
          refine ⟨?_, OnlyIn.refl _ _ _, GG.out.2.2.2.2.1⟩
          rw [tgK_zero]; exact GG.out.2.2.1
        have ngb := GG.out.2.2.2.2.2.1
        have lb := GG.out.2.2.2.2.2.2.1
        have lg := GG.out.2.2.2.2.2.2.2
        have HB2 := hid (And.intro (mulV_lt HP2.out.1 hp) bq)
        go_loopw [31] (fun i wr => ∃ k : Nat, k ≤ n ∧ i = .int .i64 k ∧ Hid (TgRow wT wr g n k L p)) (fun i _ => n - (intOf i).toNat)
        case atStart => exact ⟨0, Nat.zero_le _, rfl, T0⟩
        case round =>
          obtain ⟨k, hk, rfl, hT⟩ := hrel
          have hd : b6 < g ∨ g + 1 ≤ b6 := by omega
          have XB := GG.out.1.only hT.out.only hd
          have XBc := XB.c0
          by_cases hlt : k < n
          · obtain ⟨x0, hx0⟩ : ∃ x, x = L k 0 := ⟨_, rfl⟩
            obtain ⟨x1, hx1⟩ : ∃ x, x = L k 1 := ⟨_, rfl⟩
            obtain ⟨p0, p1⟩ := HP2.out.2 k hlt
            rw [← hx0] at p0
            rw [← hx1] at p1
            have q0 := run_mul p0 hp 23 Try.prog
            have q1 := run_mul p1 hp 23 Try.prog
            have l0 := mulV_lt p0 hp
            have l1 := mulV_lt p1 hp
            have HN' := hid (hT.out.step hlt (by rw [← hx0]; exact l0) (by rw [← hx1]; exact l1))
            rw [← hx0, ← hx1] at HN'
            obtain ⟨r0, hr0⟩ : ∃ r, r = mulV x0 p := ⟨_, rfl⟩
            obtain ⟨r1, hr1⟩ : ∃ r, r = mulV x1 p := ⟨_, rfl⟩
            rw [← hr0, ← hr1] at HN'
            rw [← hr0] at q0
            rw [← hr1] at q1
            have c0 := hT.out.row.cell k 0 hlt (by omega)
            have c1 := hT.out.row.cell k 1 hlt (by omega)
            have e0 : tgK L p k k 0 = x0 := by unfold tgK; rw [if_neg (Nat.lt_irrefl _), hx0]
            have e1 : tgK L p k k 1 = x1 := by unfold tgK; rw [if_neg (Nat.lt_irrefl _), hx1]
            rw [e0, Nat.add_zero] at c0
            rw [e1] at c1
            have f0 := hT.out.row.frz (k * 4)
            have f1 := hT.out.row.frz (k * 4 + 1)
            have XB1 := XB.set (p := ⟨g, k * 4, none⟩) (fun e => ngb e.symm) (.float .f32 r0)
            have XBd := XB1.c0
            have c1' : (wr.setCell ⟨g, k * 4, none⟩ (.float .f32 r0)).cell? ⟨g, k * 4 + 1, none⟩ = some (.float .f32 x1) := by
              rw [World.cell?_setCell_other _ _ _ _ (fun e => by injection e; omega)]; exact c1
            have f1' : (wr.setCell ⟨g, k * 4, none⟩ (.float .f32 r0)).frozen? ⟨g, k * 4 + 1, none⟩ = false := by simp only [World.frozen?_setCell]; exact f1
            have i1 : (0 : Int) ≤ (k : Int) := by omega
            have i2 : (k : Int) < (n : Int) := by omega
            clear hx0 hx1 hr0 hr1 p0 p1 l0 l1 e0 e1 XB XB1
            go_wp2
            go_roundw
            case rel => exact ⟨k + 1, by omega, by go_num, by first | exact HN' | exact HN'.out.same rfl rfl rfl rfl⟩
            case measure => simp [intOf]; omega
          · obtain rfl : k = n := by omega
            have ROW2 := hid (row_done hT.out.row)
            have XR := GG.out.2.1.only hT.out.only (.inl lg)
            have hb4 := below_only GG.out.2.2.2.1 hT.out.only (by omega) rfl rfl rfl rfl
            have gl := hT.out.lt
            have XBs := XB.c1
            have XBq := XB.c2
            have HXB := hid XB
            have HXR := hid XR
            clear XB XR qs
            cases hv2 : validB k (tgX L p) (mulV s p) q
            all_goals
              have HV2 := hid hv2
              clear hv2
              go_wp2_with fail
              refine (implValid_any (some ⟨g, 0, none⟩) k cap (tgX L p) (mulV s p) q _ HN.out (by exact ROW2.out.arg gl) HB2.out.1 HB2.out.2).mono ?_
              rintro e w5 ⟨rfl, B5⟩
              rw [HV2.out]
              have hb5 := below_step hb4 B5 rfl rfl rfl rfl
              obtain ⟨b0, b1, b2, b3, b4⟩ := HXB.out.below (below_self B5 rfl rfl rfl rfl)
              obtain ⟨r0, r1, r2, r3, r4⟩ := HXR.out.below (below_self B5 rfl rfl rfl rfl)
              have r30 := r3 0
              have r31 := r3 1
              have r32 := r3 2
              have ROW5 := hid (ROW2.out.of_block ((below_self B5 rfl rfl rfl rfl).block g gl))
              have gl5 := Nat.lt_of_lt_of_le gl (below_self B5 rfl rfl rfl rfl).size
              clear r3 b3 B5 XBc XBs XBq
              go_wp2
            · refine bodyPost_ret (v := .tuple #[.agg #[.slice none 0 0, .float .f32 0, .float .f32 0], .bool false]) (by simp [results, Try.results53, go_sem, r0, r1, r2]) rfl ?_
              rw [HV2.out]
              refine RetG.of_none rfl ?_
              exact ((hb5.setCell (Nat.le_succ _) _).setCell (Nat.le_succ _) _).setCell (Nat.le_succ _) _
            · have ng : g ≠ w.heap.size + 1 := by omega
              refine bodyPost_ret (v := .tuple #[.agg #[.slice (some ⟨g, 0, none⟩) k cap, .float .f32 (mulV s p), .float .f32 q], .bool true]) (by simp [results, Try.results53, go_sem, r0, r1, r2]) rfl ?_
              rw [HV2.out]
              refine ⟨some ⟨g, 0, none⟩, cap, rfl, ?_, ?_⟩
              · refine fun _ => ⟨g, rfl, by omega, by simpa [World.setCell] using gl5, ?_⟩
                exact ((ROW5.out.set ng _).set ng _).set ng _
              · exact ((hb5.setCell (Nat.le_succ _) _).setCell (Nat.le_succ _) _).setCell (Nat.le_succ _) _
end Go.Proofs.Ytmomgaiondjinaa
