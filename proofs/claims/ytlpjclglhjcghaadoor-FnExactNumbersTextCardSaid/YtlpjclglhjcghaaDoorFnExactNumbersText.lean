/- The program's NumbersText and the reference's agree at every list. No condition. -/
import Derived.Test.YtlpjclglhjcghaaDoorCards
import Derived.Test.YtlpjclglhjcghaaDoorTie
import Derived.Test.YtlpjclglhjcghaaDoorCmn
import Derived.Test.YtlpjclglhjcghaaDoorNt
import Derived.Test.YtlpjclglhjcghaaDoorTz
import Derived.Test.YtlpjclglhjcghaaDoorList
import Derived.Test.YtlpjclglhjcghaaDoorCr
namespace Go.Proofs.YtlpjclglhjcghaaDoor.fnExactNumbersText
open Go.ChangeShapes Go.WideShapes Go.ChangeAt Go.RowKit Go.Proofs.YtlpjclglhjcghaaDoor
open Go.ChangeMaps (open_string shut_string)

set_option maxHeartbeats 1000000 in
set_option maxRecDepth 100000 in
theorem walk (w : World) (A : Option Addr) (len cap : Nat) (V : Nat → Nat) (_hm : len ≤ maxLen) (hA : Fl.FArg w A len V) (hT : w.cell? ⟨8, 15, none⟩ = some (.int .u8 4)) :
    Calls Tryd.prog 9 #[.slice A len cap] w fun e w' => e = .returned (.bool true) ∧ Below w.heap.size w w' := by
  by_cases hl : 1048576 < len
  · go_enter Tryd.func9, Tryd.ntmps9
    go_wp2
    go_ret
    exact ⟨rfl, Below.refl _ _⟩
  have hl1 : len ≤ 1048576 := by omega
  have HA := Lib.hid hA
  have hzb : ∀ w', Below w.heap.size w w' → w'.cell? ⟨8, 15, none⟩ = some (.int .u8 4) := fun w' hb => (hb.cell (p := ⟨8, 15, none⟩) (lt_of_cell hT)).trans hT
  have HT := Lib.hid hzb
  clear hA hT hzb
  by_cases h2 : len ≤ 256
  · obtain ⟨T, hT⟩ : ∃ T, listTxt (hV V) len = T := ⟨_, rfl⟩
    have HTx := Lib.hid hT
    clear hT
    go_enter Tryd.func9, Tryd.ntmps9
    go_wp2_with fail
    refine (toF_any A len cap V _ (by omega) HA.out).mono ?_
    rintro e1 w1 ⟨g1, rfl, l1, b1, R1, B1⟩
    have A1 := R1.arg b1
    go_wp2_with fail
    refine (specNTextYes _ len len V _ h2 A1).mono ?_
    rintro e2 w2 ⟨s, rfl, hs, B2⟩
    have B2' := below_trans B1 B2
    go_wp2_with fail
    refine (toF_any A len cap V _ (by omega) (HA.out.below B2')).mono ?_
    rintro e3 w3 ⟨g3, rfl, l3, b3, R3, B3⟩
    have A3 := R3.arg b3
    have B3' := below_trans B2' B3
    go_wp2_with fail
    refine (implNText _ len len V _ h2 A3 (HT.out _ B3')).mono ?_
    rintro e4 w4 ⟨rfl, B4⟩
    have B4' := below_trans B3' B4
    have A4 := A3.below B4
    have hbeq : (T == s.toList) = true := by rw [Lib.toList_data, hs, HTx.out]; exact beq_self_eq_true _
    clear hs
    rw [HTx.out]
    go_wp2_with fail
    refine (toF_any A len cap V _ (by omega) (HA.out.below B4')).mono ?_
    rintro e5 w5 ⟨g5, rfl, l5, b5, R5, B5⟩
    have A5 := R5.arg b5
    have B5' := below_trans B4' B5
    have A6 := A4.below B5
    go_wp2_with fail
    refine (eqF_any _ _ len len len V V _ (by omega) A6 A5 (fun _ _ => rfl)).mono ?_
    rintro e7 w7 ⟨rfl, n7, rfl⟩
    go_wp2
    go_ret
    exact ⟨rfl, below_dN B5' n7⟩
  · have h3 : 256 < len := by omega
    go_enter Tryd.func9, Tryd.ntmps9
    go_wp2_with fail
    refine (toF_any A len cap V _ (by omega) HA.out).mono ?_
    rintro e1 w1 ⟨g1, rfl, l1, b1, R1, B1⟩
    have A1 := R1.arg b1
    go_wp2_with fail
    refine (specNTextLong _ len len _ h3).mono ?_
    rintro e2 w2 ⟨rfl, B2⟩
    have B2' := below_trans B1 B2
    go_wp2_with fail
    refine (toF_any A len cap V _ (by omega) (HA.out.below B2')).mono ?_
    rintro e3 w3 ⟨g3, rfl, l3, b3, R3, B3⟩
    have A3 := R3.arg b3
    have B3' := below_trans B2' B3
    go_wp2_with fail
    refine (implNTextLong _ len len _ h3).mono ?_
    rintro e4 w4 ⟨rfl, B4⟩
    have B4' := below_trans B3' B4
    have A4 := A3.below B4
    go_wp2_with fail
    refine (toF_any A len cap V _ (by omega) (HA.out.below B4')).mono ?_
    rintro e5 w5 ⟨g5, rfl, l5, b5, R5, B5⟩
    have A5 := R5.arg b5
    have B5' := below_trans B4' B5
    have A6 := A4.below B5
    go_wp2_with fail
    refine (eqF_any _ _ len len len V V _ (by omega) A6 A5 (fun _ _ => rfl)).mono ?_
    rintro e7 w7 ⟨rfl, n7, rfl⟩
    go_wp2
    go_ret
    exact ⟨rfl, below_dN B5' n7⟩

set_option maxRecDepth 1000000 in
/-- What the walk gives, for every argument and every world that holds the tables. -/
theorem contract (H : Type) (enc : TypeId × Value → H) (W : World) (base : Nat) (args : Array Value) (ds gs : List (DataW H)) (before : List MemPlace)
    (hval : ∀ (j : Nat) t v, Tryd.f9.params[j]? = some t → args[j]? = some v → Value.okWide Tryd.prog W .any base t v)
    (hW : DataW.Whole enc Tryd.prog Tryd.f9.params.toList Rows.fnExactNumbersTextSpec.vars false W args.toList ds gs before) (hL : laidMetH Tryd.prog Rows.fnExactNumbersTextRow.laid W) :
    Calls Tryd.prog 9 args W fun e W' => ∃ v, e = .returned v ∧ Rows.fnExactNumbersTextSpec.post enc Tryd.prog Tryd.f9 false true false false W args v W' := by
  have hW' := hW
  obtain ⟨p, q, hA0, hV, rfl, hfz, hnd⟩ := hW
  have hA : DataW.TrodAll enc Tryd.prog W 0 (fun _ => true) true Tryd.f9.params.toList args.toList ds p := hA0
  rw [Tryd.params9] at hA hval
  obtain ⟨v0, vs0, d0, ds0, p0, q0, hargs, rfl, rfl, h0, r0⟩ := trodAll_cons hA
  obtain ⟨rfl, rfl, rfl⟩ := trodAll_nil r0
  obtain rfl : args = #[v0] := by cases args; simp_all
  obtain ⟨rfl, rfl⟩ := trodVars_none hV
  have k0 := h0
  obtain ⟨A0, l0, c0, V0, rfl, m0, H0⟩ := Fl.open_f32s Tryd.underlying28 Tryd.underlying51 (by kernel_rfl) (hval 0 28 v0 rfl rfl) h0
  clear hA0
  refine (walk W A0 l0 c0 V0 m0 H0 (tzIs hL.tail)).mono fun e W' ⟨he, hg⟩ => ?_
  subst he
  exact ⟨_, rfl, post_of_below2 (pv := []) hW' (fun _ _ _ => (trodAll_cons_mk (shut_bool Tryd.underlying4 _) trodAll_mk0)) (trodAll_cons_mk (Below.trod cutRowed (by kernel_rfl) (of_decide_eq_true (by kernel_rfl)) k0 hg (fun x hx => hW'.lt x (by simp [hx]))) trodAll_mk0) (fun _ _ => rfl) hg⟩
set_option maxRecDepth 1000000 in
theorem laid_met (os : Os) : laidMet Tryd.prog Rows.fnExactNumbersTextRow.laid ((world3 os).forCall (fun _ _ => 0) ⟨#[], #[.slice none 0 0], []⟩).memory :=
  laidMet_of_run' 8 (by kernel_rfl) (by kernel_rfl)
theorem reads (os : Os) {H : Type} (enc : TypeId × Value → H) : ∃ places, DataW.whole enc Tryd.prog ((world3 os).forCall (fun _ _ => 0) ⟨#[], #[.slice none 0 0], []⟩).memory Tryd.f9.params.toList Rows.fnExactNumbersTextSpec.vars false (#[.slice none 0 0] : Array Value).toList 8 = some ([.nil], [], places) :=
  ⟨[], by kernel_rfl⟩
set_option maxRecDepth 100000 in
theorem lifted (os : Os) (started : os.Started) (H : Type) (enc : TypeId × Value → H) (F : Stop.Interp) :
    ReturnsInHanded {} Tryd.checked os 9 .any ((OpenSpec.ofChange Rows.fnExactNumbersTextSpec).preRow enc Tryd.prog Tryd.f9 Rows.fnExactNumbersTextRow.domain false Rows.fnExactNumbersTextRow.laid) (((OpenSpec.ofChange Rows.fnExactNumbersTextSpec).at F).post enc Tryd.prog Tryd.f9 false true false false) := by
  obtain ⟨places, hx⟩ := reads os enc
  refine returnsInHanded_of_row (C := Tryd.checked) (s := OpenSpec.ofChange Rows.fnExactNumbersTextSpec) own started (by kernel_rfl) Tryd.func9
    (witness_row_at (enc := enc) (C := Tryd.checked) false (world3 os) #[.slice none 0 0] rfl (by kernel_rfl) (by kernel_rfl) (by kernel_rfl)
      (OpenSpec.preRow_of_cond 8 hx (by kernel_rfl) (fun k hk => by cases hk) (by kernel_rfl) (laid_met os))) ?_
  intro W base args ds gs before hval hW _ _ _ hL _ _
  exact contract H enc W base args ds gs before hval hW hL
theorem said : Rows.FnExactNumbersTextSaid :=
  OpenClaim.holds_of_cond 9 Tryd.f9 rfl rfl rfl rfl rfl rfl rfl ⟨rfl, rfl, rfl, rfl, rfl⟩ rfl rfl rfl rfl rfl (by kernel_rfl) Tryd.func9 (by kernel_rfl)
    (of_decide_eq_true (by kernel_rfl)) (by unfold Func.isWrapper; first | (rw [if_pos (by decide +kernel)]; kernel_rfl) | (rw [if_neg (by decide +kernel)]; exact ⟨rfl, rfl⟩))
    (fun os started H enc _ F => by rw [OpenClaim.pre_eq_preRow]; exact lifted os started H enc F)
theorem plain (f : FuncId) (fn : Func) (hf : Tryd.pinned.checked.prog.funcNamed "loop.example/g01231/laws.FnExactNumbersText" = some f) (hfn : Tryd.pinned.checked.prog.funcs[f]? = some fn) :
    true = Tryd.pinned.checked.prog.looks [] ∧ ∀ (j : Nat) t, fn.params[j]? = some t → Tryd.pinned.checked.prog.wantsStandIn t = false := by
  obtain rfl : f = 9 := Option.some.inj ((show Tryd.prog.funcNamed "loop.example/g01231/laws.FnExactNumbersText" = some 9 by kernel_rfl).symm.trans hf) |>.symm
  obtain rfl : fn = Tryd.f9 := (Option.some.inj (Tryd.func9.symm.trans hfn)).symm
  refine ⟨by kernel_rfl, fun j t ht => ?_⟩
  rw [Tryd.params9] at ht
  obtain rfl : t = 28 := by simpa using Array.mem_of_getElem? ht
  exact (show Tryd.prog.wantsStandIn 28 = false by kernel_rfl)
theorem holds : Rows.FnExactNumbersTextCardSaid :=
  Claim7.holds_tied_plain_at .later [] _ _ _ _ said (fun _ h => by cases h) (by kernel_rfl) (fun _ h => by cases h) fnExactNumbersText_row_tie rfl ⟨rfl, rfl⟩ (by kernel_rfl) rfl plain (by kernel_rfl)
#print axioms holds
end Go.Proofs.YtlpjclglhjcghaaDoor.fnExactNumbersText
