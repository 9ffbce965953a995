/- The program's SpeedsOfRoots and the reference's agree at every two lists; what they hand back is their own. No condition. -/
import Derived.Test.YtmomgaiondjinaaRows
import Derived.WalkKit
import Derived.ProofKit
import Derived.OpenShut
import Derived.Laws.Cover2
import Derived.Test.YtmomgaiondjinaaArg
import Derived.Test.YtmomgaiondjinaaCut
import Derived.Test.YtmomgaiondjinaaRts
import Derived.Test.YtmomgaiondjinaaMk
namespace Go.Proofs.Ytmomgaiondjinaa.fnExactSpeedsOfRoots
open Go.ChangeShapes Go.WideShapes Go.ChangeAt Go.RowKit Go.Proofs.Ytmomgaiondjinaa.Fl Go.Proofs.Ytmomgaiondjinaa
open Go.ChangeMaps (open_string shut_string)
theorem own : ownKnob Try.prog.godebug = none := by kernel_rfl

set_option maxHeartbeats 4000000 in
set_option maxRecDepth 100000 in
theorem walk (w : World) (A : Option Addr) (la ca : Nat) (V : Nat → Nat) (_hma : la ≤ maxLen) (hA : FArg w A la V) (B : Option Addr) (lb cb : Nat) (U : Nat → Nat) (_hmb : lb ≤ maxLen) (hB : FArg w B lb U) :
    Calls Try.prog 5 #[.slice A la ca, .slice B lb cb] w fun e w' => e = .returned (.bool true) ∧ Below w.heap.size w w' := by
  by_cases hl : 1048576 < la ∨ 1048576 < lb
  · by_cases h1 : 1048576 < la
    · go_enter Try.func5, Try.ntmps5
      go_wp2
      go_ret
      exact ⟨rfl, Below.refl _ _⟩
    · have h2 : 1048576 < lb := by omega
      go_enter Try.func5, Try.ntmps5
      go_wp2
      go_ret
      exact ⟨rfl, Below.refl _ _⟩
  · have hl1 : ¬ 1048576 < la := by omega
    have hl2 : ¬ 1048576 < lb := by omega
    have hla : la ≤ 1048576 := by omega
    have hlb : lb ≤ 1048576 := by omega
    clear hl
    have HA := hid hA
    have HB := hid hB
    clear hA hB
    have HM : Hid ((lstN la (rtOk la lb V U)) ≤ 1048576) := Nat.le_trans (lstN_le _ _) hla
    have t1 : decide ((((1 + la + lb : Nat)) : Int) < 0) = false := decide_eq_false (by omega)
    have t2 : decide ((((1 + (lstN la (rtOk la lb V U)) : Nat)) : Int) < 0) = false := decide_eq_false (by omega)
    · go_enter Try.func5, Try.ntmps5
      have Z0 := Below.refl w.heap.size w
      go_wp2_with fail
      refine (toF_any A la ca V _ hla (by first | exact HA.out.below Z0 | exact HA.out.below (below_drewN Z0 _))).mono ?_
      rintro e w1 ⟨g1, rfl, lg1, bg1, Rg1, B1⟩
      have Z2 := below_step Z0 B1 rfl rfl rfl rfl
      have z1 := size_self (b := w) B1 rfl
      have Ig1 : FIn w1 w.heap.size w1.heap.size (some ⟨g1, 0, none⟩) la V := fun _ => ⟨g1, rfl, lg1, bg1, bg1, Rg1⟩
      clear Rg1 lg1 bg1
      go_wp2_with fail
      refine (toF_any B lb cb U _ hlb (by first | exact HB.out.below Z2 | exact HB.out.below (below_drewN Z2 _))).mono ?_
      rintro e w3 ⟨g2, rfl, lg2, bg2, Rg2, B3⟩
      replace Ig1 := Ig1.below (below_self B3 rfl rfl rfl rfl)
      have Z4 := below_step Z2 B3 rfl rfl rfl rfl
      have z3 := size_self (b := w1) B3 rfl
      have Ig2 : FIn w3 w1.heap.size w3.heap.size (some ⟨g2, 0, none⟩) lb U := fun _ => ⟨g2, rfl, lg2, bg2, bg2, Rg2⟩
      clear Rg2 lg2 bg2
      go_wp2_with fail
      refine (specRts_any (some ⟨g1, 0, none⟩) (some ⟨g2, 0, none⟩) la la lb lb V U _ hla hlb (by exact Ig1.arg) (by exact Ig2.arg)).mono ?_
      rintro e w5 ⟨D, Dc, rfl, HD, B5⟩
      replace Ig1 := Ig1.below (below_self B5 rfl rfl rfl rfl)
      replace Ig2 := Ig2.below (below_self B5 rfl rfl rfl rfl)
      have Z6 := below_step Z4 B5 rfl rfl rfl rfl
      have z5 := size_self (b := w3) B5 rfl
      have FD := FOwnE.in_ HD.out
      clear HD
      clear Ig1 Ig2
      go_wp2_with fail
      refine (toF_any A la ca V _ hla (by first | exact HA.out.below Z6 | exact HA.out.below (below_drewN Z6 _))).mono ?_
      rintro e w7 ⟨g3, rfl, lg3, bg3, Rg3, B7⟩
      replace FD := FD.below (below_self B7 rfl rfl rfl rfl)
      have Z8 := below_step Z6 B7 rfl rfl rfl rfl
      have z7 := size_self (b := w5) B7 rfl
      have Ig3 : FIn w7 w5.heap.size w7.heap.size (some ⟨g3, 0, none⟩) la V := fun _ => ⟨g3, rfl, lg3, bg3, bg3, Rg3⟩
      clear Rg3 lg3 bg3
      go_wp2_with fail
      refine (toF_any B lb cb U _ hlb (by first | exact HB.out.below Z8 | exact HB.out.below (below_drewN Z8 _))).mono ?_
      rintro e w9 ⟨g4, rfl, lg4, bg4, Rg4, B9⟩
      replace FD := FD.below (below_self B9 rfl rfl rfl rfl)
      replace Ig3 := Ig3.below (below_self B9 rfl rfl rfl rfl)
      have Z10 := below_step Z8 B9 rfl rfl rfl rfl
      have z9 := size_self (b := w7) B9 rfl
      have Ig4 : FIn w9 w7.heap.size w9.heap.size (some ⟨g4, 0, none⟩) lb U := fun _ => ⟨g4, rfl, lg4, bg4, bg4, Rg4⟩
      clear Rg4 lg4 bg4
      go_wp2_with fail
      refine (implRts_any (some ⟨g3, 0, none⟩) (some ⟨g4, 0, none⟩) la la lb lb V U _ hla hlb (by exact Ig3.arg) (by exact Ig4.arg)).mono ?_
      rintro e w11 ⟨G, Gc, rfl, HG, B11⟩
      replace FD := FD.below (below_self B11 rfl rfl rfl rfl)
      replace Ig3 := Ig3.below (below_self B11 rfl rfl rfl rfl)
      replace Ig4 := Ig4.below (below_self B11 rfl rfl rfl rfl)
      have Z12 := below_step Z10 B11 rfl rfl rfl rfl
      have z11 := size_self (b := w9) B11 rfl
      have FG := FOwnE.in_ HG.out
      clear HG
      go_wp2_with fail
      refine (eqF_E G D (lstN la (rtOk la lb V U)) Gc Dc _ _ _ _ (rtE V U) _ HM.out (by first | exact FG | exact (FG.drewN _)) (by first | exact FD | exact (FD.drewN _))).mono ?_
      rintro e wq13 ⟨rfl, n13, rfl⟩
      go_wp2_with fail
      refine (toF_any A la ca V _ hla (by first | exact HA.out.below Z12 | exact HA.out.below (below_drewN Z12 _))).mono ?_
      rintro e w14 ⟨g5, rfl, lg5, bg5, Rg5, B14⟩
      replace FD := FD.below (below_self B14 rfl rfl rfl rfl)
      replace Ig3 := Ig3.below (below_self B14 rfl rfl rfl rfl)
      replace Ig4 := Ig4.below (below_self B14 rfl rfl rfl rfl)
      replace FG := FG.below (below_self B14 rfl rfl rfl rfl)
      have Z15 := below_step Z12 B14 rfl rfl rfl rfl
      have z14 := size_self (b := w11) B14 rfl
      have Ig5 : FIn w14 w11.heap.size w14.heap.size (some ⟨g5, 0, none⟩) la V := fun _ => ⟨g5, rfl, lg5, bg5, bg5, Rg5⟩
      clear Rg5 lg5 bg5
      go_wp2_with fail
      refine (eqF_E (some ⟨g3, 0, none⟩) (some ⟨g5, 0, none⟩) la la la _ _ _ _ (fun i => nz .f32 (V i)) _ hla (by first | exact Ig3.E | exact (Ig3.drewN _).E) (by first | exact Ig5.E | exact (Ig5.drewN _).E)).mono ?_
      rintro e wq16 ⟨rfl, n16, rfl⟩
      clear Ig5
      go_wp2_with fail
      refine (toF_any B lb cb U _ hlb (by first | exact HB.out.below Z15 | exact HB.out.below (below_drewN Z15 _))).mono ?_
      rintro e w17 ⟨g6, rfl, lg6, bg6, Rg6, B17⟩
      replace FD := FD.below (below_self B17 rfl rfl rfl rfl)
      replace Ig3 := Ig3.below (below_self B17 rfl rfl rfl rfl)
      replace Ig4 := Ig4.below (below_self B17 rfl rfl rfl rfl)
      replace FG := FG.below (below_self B17 rfl rfl rfl rfl)
      have Z18 := below_step Z15 B17 rfl rfl rfl rfl
      have z17 := size_self (b := w14) B17 rfl
      have Ig6 : FIn w17 w14.heap.size w17.heap.size (some ⟨g6, 0, none⟩) lb U := fun _ => ⟨g6, rfl, lg6, bg6, bg6, Rg6⟩
      clear Rg6 lg6 bg6
      go_wp2_with fail
      refine (eqF_E (some ⟨g4, 0, none⟩) (some ⟨g6, 0, none⟩) lb lb lb _ _ _ _ (fun i => nz .f32 (U i)) _ hlb (by first | exact Ig4.E | exact (Ig4.drewN _).E) (by first | exact Ig6.E | exact (Ig6.drewN _).E)).mono ?_
      rintro e wq19 ⟨rfl, n19, rfl⟩
      clear Ig6
      go_wp2_with fail
      refine (markF_E (some ⟨g3, 0, none⟩) la la 1 w5.heap.size w7.heap.size (fun i => nz .f32 (V i)) _ hla (by omega) (by first | exact Ig3.E | exact (Ig3.drewN _).E)).mono ?_
      rintro e w20 ⟨rfl, K20, _⟩
      replace FD := FD.only (only_self K20 rfl rfl rfl rfl) (.inl (by omega))
      clear Ig3
      replace Ig4 := Ig4.only (only_self K20 rfl rfl rfl rfl) (.inr (by omega))
      replace FG := FG.only (only_self K20 rfl rfl rfl rfl) (.inr (by omega))
      have Z21 := below_only Z18 K20 (by omega) rfl rfl rfl rfl
      have z20 : w17.heap.size ≤ w20.heap.size := (only_self (b := w17) K20 rfl rfl rfl rfl).size
      clear K20
      go_wp2_with fail
      refine (markF_E (some ⟨g4, 0, none⟩) lb lb (1 + la) w7.heap.size w9.heap.size (fun i => nz .f32 (U i)) _ hlb (by omega) (by first | exact Ig4.E | exact (Ig4.drewN _).E)).mono ?_
      rintro e w22 ⟨rfl, K22, _⟩
      replace FD := FD.only (only_self K22 rfl rfl rfl rfl) (.inl (by omega))
      clear Ig4
      replace FG := FG.only (only_self K22 rfl rfl rfl rfl) (.inr (by omega))
      have Z23 := below_only Z21 K22 (by omega) rfl rfl rfl rfl
      have z22 : w20.heap.size ≤ w22.heap.size := (only_self (b := w20) K22 rfl rfl rfl rfl).size
      clear K22
      go_wp2_with fail
      refine (eqF_E G D (lstN la (rtOk la lb V U)) Gc Dc _ _ _ _ (rtE V U) _ HM.out (by first | exact FG | exact (FG.drewN _)) (by first | exact FD | exact (FD.drewN _))).mono ?_
      rintro e wq24 ⟨rfl, n24, rfl⟩
      go_wp2_with fail
      refine (markF_E G (lstN la (rtOk la lb V U)) Gc 1 w9.heap.size w11.heap.size (rtE V U) _ HM.out (by omega) (by first | exact FG | exact (FG.drewN _))).mono ?_
      rintro e w25 ⟨rfl, K25, FM⟩
      replace FD := FD.only (only_self K25 rfl rfl rfl rfl) (.inl (by omega))
      clear FG
      have Z26 := below_only Z23 K25 (by omega) rfl rfl rfl rfl
      have z25 : w22.heap.size ≤ w25.heap.size := (only_self (b := w22) K25 rfl rfl rfl rfl).size
      clear K25
      go_wp2_with fail
      refine (heldF_E G (lstN la (rtOk la lb V U)) Gc 1 _ _ _ HM.out (by omega) (by first | exact FM | exact (FM.drewN _))).mono ?_
      rintro e wq27 ⟨rfl, rfl⟩
      go_wp2_with fail
      refine (toF_any A la ca V _ hla (by first | exact HA.out.below Z26 | exact HA.out.below (below_drewN Z26 _))).mono ?_
      rintro e w28 ⟨g7, rfl, lg7, bg7, Rg7, B28⟩
      replace FD := FD.below (below_self B28 rfl rfl rfl rfl)
      replace FM := FM.below (below_self B28 rfl rfl rfl rfl)
      have Z29 := below_step Z26 B28 rfl rfl rfl rfl
      have z28 := size_self (b := w25) B28 rfl
      have Ig7 : FIn w28 w25.heap.size w28.heap.size (some ⟨g7, 0, none⟩) la V := fun _ => ⟨g7, rfl, lg7, bg7, bg7, Rg7⟩
      clear Rg7 lg7 bg7
      go_wp2_with fail
      refine (toF_any B lb cb U _ hlb (by first | exact HB.out.below Z29 | exact HB.out.below (below_drewN Z29 _))).mono ?_
      rintro e w30 ⟨g8, rfl, lg8, bg8, Rg8, B30⟩
      replace FD := FD.below (below_self B30 rfl rfl rfl rfl)
      replace FM := FM.below (below_self B30 rfl rfl rfl rfl)
      replace Ig7 := Ig7.below (below_self B30 rfl rfl rfl rfl)
      have Z31 := below_step Z29 B30 rfl rfl rfl rfl
      have z30 := size_self (b := w28) B30 rfl
      have Ig8 : FIn w30 w28.heap.size w30.heap.size (some ⟨g8, 0, none⟩) lb U := fun _ => ⟨g8, rfl, lg8, bg8, bg8, Rg8⟩
      clear Rg8 lg8 bg8
      go_wp2_with fail
      refine (implRts_any (some ⟨g7, 0, none⟩) (some ⟨g8, 0, none⟩) la la lb lb V U _ hla hlb (by exact Ig7.arg) (by exact Ig8.arg)).mono ?_
      rintro e w32 ⟨H, Hc, rfl, HH, B32⟩
      replace FD := FD.below (below_self B32 rfl rfl rfl rfl)
      replace FM := FM.below (below_self B32 rfl rfl rfl rfl)
      replace Ig7 := Ig7.below (below_self B32 rfl rfl rfl rfl)
      replace Ig8 := Ig8.below (below_self B32 rfl rfl rfl rfl)
      have Z33 := below_step Z31 B32 rfl rfl rfl rfl
      have z32 := size_self (b := w30) B32 rfl
      have FH := FOwnE.in_ HH.out
      clear HH
      clear Ig7 Ig8
      go_wp2_with fail
      refine (eqF_E H D (lstN la (rtOk la lb V U)) Hc Dc _ _ _ _ (rtE V U) _ HM.out (by first | exact FH | exact (FH.drewN _)) (by first | exact FD | exact (FD.drewN _))).mono ?_
      rintro e wq34 ⟨rfl, n34, rfl⟩
      go_wp2_with fail
      refine (heldF_E G (lstN la (rtOk la lb V U)) Gc 1 _ _ _ HM.out (by omega) (by first | exact FM | exact (FM.drewN _))).mono ?_
      rintro e wq35 ⟨rfl, rfl⟩
      go_wp2
      go_ret
      exact ⟨rfl, by first | exact Z33 | exact below_drewN Z33 _⟩

theorem facts : joinedFacts Try.prog 5 Try.f5 Rows.fnExactSpeedsOfRootsSpec Rows.fnExactSpeedsOfRootsRow = true := by
  unfold joinedFacts
  rw [cutMake, cutLifts, cutEnter, cutRowed, cutMaps]
  kernel_rfl
set_option maxRecDepth 100000 in
theorem lifted (os : Os) (started : os.Started) (H : Type) (enc : TypeId × Value → H) :
    ReturnsInHanded {} Try.checked os 5 .any (Rows.fnExactSpeedsOfRootsSpec.pre6 enc Try.prog Try.f5 Rows.fnExactSpeedsOfRootsRow.domain false) (Rows.fnExactSpeedsOfRootsSpec.post enc Try.prog Try.f5 false true false false) := by
  refine returnsInHanded_of_change (C := Try.checked) own started (by kernel_rfl) Try.func5
    (ChangeSpec.witness6 (enc := enc) (C := Try.checked) false ⟨#[], #[.slice none 0 0, .slice none 0 0], []⟩ 8 (by kernel_rfl) (by kernel_rfl) (by kernel_rfl) (by kernel_rfl)) ?_
  intro W base args ds gs before hval0 hW hcnd _
  have hval : ∀ (j : Nat) t v, Try.f5.params[j]? = some t → args[j]? = some v → Value.okWide Try.prog W .any base t v := hval0
  have hW' := hW
  obtain ⟨p, q, hA0, hV, rfl, hfz, hnd⟩ := hW
  have hA : DataW.TrodAll enc Try.prog W 0 (fun _ => true) true Try.f5.params.toList args.toList ds p := hA0
  rw [Try.params5] at hA hval
  obtain ⟨v0, vs0, d0, ds0, p0, q0, hargs, rfl, rfl, h0, r0⟩ := trodAll_cons hA
  obtain ⟨v1, vs1, d1, ds1, p1, q1, rfl, rfl, rfl, h1, r1⟩ := trodAll_cons r0
  obtain ⟨rfl, rfl, rfl⟩ := trodAll_nil r1
  obtain rfl : args = #[v0, v1] := by cases args; simp_all
  obtain ⟨rfl, rfl⟩ := trodVars_none hV
  have k0 := h0
  obtain ⟨A0, l0, c0, V0, rfl, m0, H0⟩ := open_f32s Try.underlying22 Try.underlying23 (by kernel_rfl) (hval 0 22 v0 rfl rfl) h0
  have k1 := h1
  obtain ⟨A1, l1, c1, V1, rfl, m1, H1⟩ := open_f32s Try.underlying22 Try.underlying23 (by kernel_rfl) (hval 1 22 v1 rfl rfl) h1
  clear hA0 hval0
  refine (walk W A0 l0 c0 V0 m0 H0 A1 l1 c1 V1 m1 H1).mono fun e W' ⟨he, hg⟩ => ?_
  subst he
  exact ⟨_, rfl, post_of_below2 (pv := []) hW' (fun _ _ _ => (trodAll_cons_mk (shut_bool Try.underlying4 _) trodAll_mk0)) (trodAll_cons_mk (Below.trod cutRowed (by kernel_rfl) (of_decide_eq_true (by kernel_rfl)) k0 hg (fun x hx => hW'.lt x (by simp [hx]))) (trodAll_cons_mk (Below.trod cutRowed (by kernel_rfl) (of_decide_eq_true (by kernel_rfl)) k1 hg (fun x hx => hW'.lt x (by simp [hx]))) trodAll_mk0)) (fun _ _ => rfl) hg⟩

theorem over : Rows.fnExactSpeedsOfRootsRow.holds Try.pinned (OpenSpec.ofChange Rows.fnExactSpeedsOfRootsSpec) :=
  OpenClaim.holds_of_wide 5 Try.f5 rfl rfl rfl rfl rfl rfl rfl ⟨rfl, rfl, rfl, rfl, rfl⟩ rfl rfl rfl rfl rfl (by kernel_rfl) Try.func5 facts
    (of_decide_eq_true (by kernel_rfl)) (by unfold Func.isWrapper; rw [if_neg (of_decide_eq_false (by kernel_rfl))]; exact ⟨rfl, rfl⟩)
    (fun os started H enc _ => lifted os started H enc)

theorem holds : Rows.FnExactSpeedsOfRootsSaid := over
#print axioms holds
end Go.Proofs.Ytmomgaiondjinaa.fnExactSpeedsOfRoots
