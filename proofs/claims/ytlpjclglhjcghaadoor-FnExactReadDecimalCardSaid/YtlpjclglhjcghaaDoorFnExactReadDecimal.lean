/- The program's ReadDecimal and the reference's agree at every text. No condition. -/
import Derived.Test.YtlpjclglhjcghaaDoorCards
import Derived.Test.YtlpjclglhjcghaaDoorTie
import Derived.Test.YtlpjclglhjcghaaDoorCmn
import Derived.Test.YtlpjclglhjcghaaDoorCme
import Derived.Deep.DeepWitnessRowRef
namespace Go.Proofs.YtlpjclglhjcghaaDoor.fnExactReadDecimal
open Go.ChangeShapes Go.WideShapes Go.ChangeAt Go.RowKit Go.Proofs.YtlpjclglhjcghaaDoor
open Go.ChangeMaps (open_string shut_string)

theorem calls_as {f : FuncId} {args : Array Value} {w : World} {v v' : Value} {B : World → Prop} (h : Calls Tryd.prog f args w fun e w' => e = .returned v ∧ B w') (hv : v = v') : Calls Tryd.prog f args w fun e w' => e = .returned v' ∧ B w' := hv ▸ h
set_option maxRecDepth 100000 in
theorem walk (w : World) (s : ByteArray) (hs : s.size ≤ maxLen) (hE : Errs w) :
    Calls Tryd.prog 10 #[.string s] w fun e w' => e = .returned (.bool true) ∧ Below w.heap.size w w' := by
  unfold maxLen at hs
  rcases Nat.lt_or_ge 1048576 s.size with h | h
  · go_enter Tryd.func10, Tryd.ntmps10
    go_wp2
    go_ret
    exact ⟨rfl, Below.refl _ _⟩
  · have HE := Lib.hid hE
    clear hE
    cases ho : rdD s.data.toList with
    | none =>
      go_enter Tryd.func10, Tryd.ntmps10
      go_wp2_with (first | (go_at_call 61; refine (calls_as (specValue s _) (resI_none ho)).mono ?_; rintro e w1 ⟨rfl, B1⟩) | (go_at_call 37; refine (calls_as (implReadDecimal s _ (by omega) (HE.out.on B1)) (resI_none ho)).mono ?_; rintro e w2 ⟨rfl, B2⟩) | go_in)
      go_ret
      exact ⟨rfl, B1.trans (B2.mono B1.size)⟩
    | some n =>
      go_enter Tryd.func10, Tryd.ntmps10
      go_wp2_with (first | (go_at_call 61; refine (calls_as (specValue s _) (resI_some ho)).mono ?_; rintro e w1 ⟨rfl, B1⟩) | (go_at_call 37; refine (calls_as (implReadDecimal s _ (by omega) (HE.out.on B1)) (resI_some ho)).mono ?_; rintro e w2 ⟨rfl, B2⟩) | go_in)
      go_ret
      exact ⟨rfl, B1.trans (B2.mono B1.size)⟩

set_option maxRecDepth 1000000 in
/-- What the walk gives, for every argument and every world that holds the tables. -/
theorem contract (H : Type) (enc : TypeId × Value → H) (W : World) (base : Nat) (args : Array Value) (ds gs : List (DataW H)) (before : List MemPlace)
    (hval : ∀ (j : Nat) t v, Tryd.f10.params[j]? = some t → args[j]? = some v → Value.okWide Tryd.prog W .any base t v)
    (hW : DataW.Whole enc Tryd.prog Tryd.f10.params.toList Rows.fnExactReadDecimalSpec.vars false W args.toList ds gs before) (hL : laidMetH Tryd.prog Rows.fnExactReadDecimalRow.laid W) :
    Calls Tryd.prog 10 args W fun e W' => ∃ v, e = .returned v ∧ Rows.fnExactReadDecimalSpec.post enc Tryd.prog Tryd.f10 false true false false W args v W' := by
  have hW' := hW
  obtain ⟨p, q, hA0, hV, rfl, hfz, hnd⟩ := hW
  have hA : DataW.TrodAll enc Tryd.prog W 0 (fun _ => true) true Tryd.f10.params.toList args.toList ds p := hA0
  rw [Tryd.params10] at hA hval
  obtain ⟨v0, vs0, d0, ds0, p0, q0, hargs, rfl, rfl, h0, r0⟩ := trodAll_cons hA
  obtain ⟨rfl, rfl, rfl⟩ := trodAll_nil r0
  obtain rfl : args = #[v0] := by cases args; simp_all
  obtain ⟨rfl, rfl⟩ := trodVars_none hV
  have k0 := h0
  obtain ⟨a0, rfl, rfl, rfl, w0⟩ := open_string Tryd.underlying9 (hval 0 9 v0 rfl rfl) h0
  clear hA0
  refine (walk W a0 w0 (errsOf5 hL)).mono fun e W' ⟨he, hg⟩ => ?_
  subst he
  exact ⟨_, rfl, post_of_below2 (pv := []) hW' (fun _ _ _ => (trodAll_cons_mk (shut_bool Tryd.underlying4 _) trodAll_mk0)) (trodAll_cons_mk (shut_string Tryd.underlying9 w0) trodAll_mk0) (fun _ _ => rfl) hg⟩
set_option maxRecDepth 1000000 in
theorem laid_met (os : Os) : laidMet Tryd.prog Rows.fnExactReadDecimalRow.laid ((worldD os).forCall (fun _ _ => 0) ⟨#[], #[.string ByteArray.empty], []⟩).memory :=
  laidMet_of_run' 8 (by kernel_rfl) (by kernel_rfl)
theorem reads (os : Os) {H : Type} (enc : TypeId × Value → H) : ∃ places, DataW.whole enc Tryd.prog ((worldD os).forCall (fun _ _ => 0) ⟨#[], #[.string ByteArray.empty], []⟩).memory Tryd.f10.params.toList Rows.fnExactReadDecimalSpec.vars false (#[.string ByteArray.empty] : Array Value).toList 8 = some ([.lit (.string [])], [], places) :=
  ⟨[], by kernel_rfl⟩
set_option maxRecDepth 100000 in
theorem lifted (os : Os) (started : os.Started) (H : Type) (enc : TypeId × Value → H) (F : Stop.Interp) :
    ReturnsInHanded {} Tryd.checked os 10 .any ((OpenSpec.ofChange Rows.fnExactReadDecimalSpec).preRow enc Tryd.prog Tryd.f10 Rows.fnExactReadDecimalRow.domain false Rows.fnExactReadDecimalRow.laid) (((OpenSpec.ofChange Rows.fnExactReadDecimalSpec).at F).post enc Tryd.prog Tryd.f10 false true false false) := by
  obtain ⟨places, hx⟩ := reads os enc
  refine returnsInHanded_of_row (C := Tryd.checked) (s := OpenSpec.ofChange Rows.fnExactReadDecimalSpec) own started (by kernel_rfl) Tryd.func10
    (witness_row_atRef (enc := enc) (C := Tryd.checked) false (worldD os) #[.string ByteArray.empty] rfl (by kernel_rfl) (by kernel_rfl) (by kernel_rfl)
      (OpenSpec.preRow_of_cond 8 hx (by kernel_rfl) (fun k hk => by cases hk) (by kernel_rfl) (laid_met os))) ?_
  intro W base args ds gs before hval hW _ _ _ hL _ _
  exact contract H enc W base args ds gs before hval hW hL
theorem said : Rows.FnExactReadDecimalSaid :=
  OpenClaim.holds_of_cond 10 Tryd.f10 rfl rfl rfl rfl rfl rfl rfl ⟨rfl, rfl, rfl, rfl, rfl⟩ rfl rfl rfl rfl rfl (by kernel_rfl) Tryd.func10 (by kernel_rfl)
    (of_decide_eq_true (by kernel_rfl)) (by unfold Func.isWrapper; first | (rw [if_pos (by decide +kernel)]; kernel_rfl) | (rw [if_neg (by decide +kernel)]; exact ⟨rfl, rfl⟩))
    (fun os started H enc _ F => by rw [OpenClaim.pre_eq_preRow]; exact lifted os started H enc F)
theorem plain (f : FuncId) (fn : Func) (hf : Tryd.pinned.checked.prog.funcNamed "loop.example/g01231/laws.FnExactReadDecimal" = some f) (hfn : Tryd.pinned.checked.prog.funcs[f]? = some fn) :
    true = Tryd.pinned.checked.prog.looks [] ∧ ∀ (j : Nat) t, fn.params[j]? = some t → Tryd.pinned.checked.prog.wantsStandIn t = false := by
  obtain rfl : f = 10 := Option.some.inj ((show Tryd.prog.funcNamed "loop.example/g01231/laws.FnExactReadDecimal" = some 10 by kernel_rfl).symm.trans hf) |>.symm
  obtain rfl : fn = Tryd.f10 := (Option.some.inj (Tryd.func10.symm.trans hfn)).symm
  refine ⟨by kernel_rfl, fun j t ht => ?_⟩
  rw [Tryd.params10] at ht
  obtain rfl : t = 9 := by simpa using Array.mem_of_getElem? ht
  exact (show Tryd.prog.wantsStandIn 9 = false by kernel_rfl)
theorem holds : Rows.FnExactReadDecimalCardSaid :=
  Claim7.holds_tied_plain_at .later [] _ _ _ _ said (fun _ h => by cases h) (by kernel_rfl) (fun _ h => by cases h) fnExactReadDecimal_row_tie rfl ⟨rfl, rfl⟩ (by kernel_rfl) rfl plain (by kernel_rfl)
#print axioms holds
end Go.Proofs.YtlpjclglhjcghaaDoor.fnExactReadDecimal
