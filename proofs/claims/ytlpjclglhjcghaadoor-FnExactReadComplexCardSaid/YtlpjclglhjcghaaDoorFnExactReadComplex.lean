/- The program's ReadComplex and the reference's agree at every text; what it hands back is its own. No condition. -/
import Derived.Test.YtlpjclglhjcghaaDoorCards
import Derived.Test.YtlpjclglhjcghaaDoorTie
import Derived.Test.YtlpjclglhjcghaaDoorCmn
import Derived.Test.YtlpjclglhjcghaaDoorCme
import Derived.Test.YtlpjclglhjcghaaDoorRy
import Derived.Test.YtlpjclglhjcghaaDoorTz
import Derived.Test.YtlpjclglhjcghaaDoorCr
import Derived.Deep.DeepWitnessRowRef
namespace Go.Proofs.YtlpjclglhjcghaaDoor.fnExactReadComplex
open Go.ChangeShapes Go.WideShapes Go.ChangeAt Go.RowKit Go.Proofs.YtlpjclglhjcghaaDoor
open Go.ChangeMaps (open_string shut_string)

set_option maxHeartbeats 4000000 in
set_option maxRecDepth 100000 in
theorem walk (w : World) (s : ByteArray) (hs : s.size ≤ maxLen) (hF : FullH w) :
    Calls Tryd.prog 5 #[.string s] w fun e w' => e = .returned (.bool true) ∧ Below w.heap.size w w' := by
  unfold maxLen at hs
  rcases Nat.lt_or_ge 1048576 s.size with h | h
  · go_enter Tryd.func5, Tryd.ntmps5
    go_wp2
    go_ret
    exact ⟨rfl, Below.refl _ _⟩
  · have HF := Lib.hid hF
    clear hF
    have hall := rlG_all (f := rdC) (Q := fun _ => True) (fun _ _ _ => trivial) 256 s.data.toList
    obtain ⟨n, hn⟩ : ∃ n, n = ((rlG rdC 256 s.data.toList).getD []).length := ⟨_, rfl⟩
    obtain ⟨V, hV⟩ : ∃ V : Nat → Nat × Nat, V = fun i => ((rlG rdC 256 s.data.toList).getD []).getD i (0, 0) := ⟨_, rfl⟩
    obtain ⟨b, hb⟩ : ∃ b, b = (rlG rdC 256 s.data.toList).isSome := ⟨_, rfl⟩
    have hn64 : n ≤ 256 := by rw [hn]; exact hall.2
    have hnz : (n : Int) ≤ 256 := by omega
    have S : ∀ w, Calls Tryd.prog 21 #[.string s] w (RetCI n V b w) := fun w => by rw [hn, hV, hb]; exact ret_inC (specReadComplex s w h)
    have I : ∀ w, FullH w → Calls Tryd.prog 22 #[.string s] w (RetCI n V b w) := fun w hF => by rw [hn, hV, hb]; exact ret_inC (implReadComplex s w h hF)
    have t1 : decide ((1 : Int) + (n : Int) < 0) = false := decide_eq_false (by omega)
    clear hn hV hb hall
    cases b
    all_goals
      go_enter Tryd.func5, Tryd.ntmps5
      go_wp2_with fail
      refine (S _).mono ?_
      rintro e1 w1 ⟨A1, c1, rfl, H1, B1⟩
      go_wp2_with fail
      refine (I _ (HF.out.on B1)).mono ?_
      rintro e2 w2 ⟨A2, c2, rfl, H2, B2⟩
      have B2' := below_trans B1 B2
      have H1b := Lib.hid (H1.out.below B2)
      go_wp2_with fail
      refine (eqC_any _ _ n _ _ V _ (by omega) H2.out.arg H1b.out.arg).mono ?_
      rintro e3 w3 ⟨rfl, n3, rfl⟩
      have H2c := Lib.hid (H2.out.drewN n3)
      have H1c := Lib.hid (H1b.out.drewN n3)
      have B3' := below_dN B2' n3
      go_wp2_with fail
      refine (markC_in A2 n _ 1 _ _ V _ (by omega) (by omega) H2c.out).mono ?_
      rintro e4 w4 ⟨rfl, go, hgo, hgrow, H4⟩
      have B4 : Below w.heap.size w w4 := B3'.grown hgrow B3'.size (fun k hk => Nat.le_trans B1.size (hgo k hk))
      have H1d := Lib.hid (H1c.out.grown hgrow hgo)
      go_wp2_with fail
      refine (heldC_in A2 n _ 1 _ (by omega) (by omega) H4.out.arg).mono ?_
      rintro e5 w5 ⟨rfl, rfl⟩
      go_wp2_with fail
      refine (I _ (HF.out.on B4)).mono ?_
      rintro e6 w6 ⟨A6, c6, rfl, H6, B6⟩
      have B6' := below_trans B4 B6
      have H1e := Lib.hid (H1d.out.below B6)
      have H4b := Lib.hid (H4.out.below B6)
      go_wp2_with fail
      refine (eqC_any _ _ n _ _ V _ (by omega) H6.out.arg H1e.out.arg).mono ?_
      rintro e7 w7 ⟨rfl, n7, rfl⟩
      go_wp2_with fail
      refine (heldC_in A2 n _ 1 _ (by omega) (by omega) (H4b.out.drewN n7).arg).mono ?_
      rintro e8 w8 ⟨rfl, rfl⟩
      go_wp2
      go_ret
      exact ⟨rfl, below_dN B6' n7⟩

set_option maxRecDepth 1000000 in
/-- What the walk gives, for every argument and every world that holds the tables. -/
theorem contract (H : Type) (enc : TypeId × Value → H) (W : World) (base : Nat) (args : Array Value) (ds gs : List (DataW H)) (before : List MemPlace)
    (hval : ∀ (j : Nat) t v, Tryd.f5.params[j]? = some t → args[j]? = some v → Value.okWide Tryd.prog W .any base t v)
    (hW : DataW.Whole enc Tryd.prog Tryd.f5.params.toList Rows.fnExactReadComplexSpec.vars false W args.toList ds gs before) (hL : laidMetH Tryd.prog Rows.fnExactReadComplexRow.laid W) (hSh : ∃ m, W.cell? ⟨6, 0, none⟩ = some (.int .i64 m)) :
    Calls Tryd.prog 5 args W fun e W' => ∃ v, e = .returned v ∧ Rows.fnExactReadComplexSpec.post enc Tryd.prog Tryd.f5 false true false false W args v W' := by
  have hW' := hW
  obtain ⟨p, q, hA0, hV, rfl, hfz, hnd⟩ := hW
  have hA : DataW.TrodAll enc Tryd.prog W 0 (fun _ => true) true Tryd.f5.params.toList args.toList ds p := hA0
  rw [Tryd.params5] at hA hval
  obtain ⟨v0, vs0, d0, ds0, p0, q0, hargs, rfl, rfl, h0, r0⟩ := trodAll_cons hA
  obtain ⟨rfl, rfl, rfl⟩ := trodAll_nil r0
  obtain rfl : args = #[v0] := by cases args; simp_all
  obtain ⟨rfl, rfl⟩ := trodVars_none hV
  have k0 := h0
  obtain ⟨a0, rfl, rfl, rfl, w0⟩ := open_string Tryd.underlying9 (hval 0 9 v0 rfl rfl) h0
  clear hA0
  refine (walk W a0 w0 (⟨⟨errsOf7 hL, hSh⟩, tzIs hL.tail⟩)).mono fun e W' ⟨he, hg⟩ => ?_
  subst he
  exact ⟨_, rfl, post_of_below2 (pv := []) hW' (fun _ _ _ => (trodAll_cons_mk (shut_bool Tryd.underlying4 _) trodAll_mk0)) (trodAll_cons_mk (shut_string Tryd.underlying9 w0) trodAll_mk0) (fun _ _ => rfl) hg⟩
set_option maxRecDepth 1000000 in
theorem laid_met (os : Os) : laidMet Tryd.prog Rows.fnExactReadComplexRow.laid ((worldR os).forCall (fun _ _ => 0) ⟨#[], #[.string ByteArray.empty], []⟩).memory :=
  laidMet_of_run' 8 (by kernel_rfl) (by kernel_rfl)
theorem reads (os : Os) {H : Type} (enc : TypeId × Value → H) : ∃ places, DataW.whole enc Tryd.prog ((worldR os).forCall (fun _ _ => 0) ⟨#[], #[.string ByteArray.empty], []⟩).memory Tryd.f5.params.toList Rows.fnExactReadComplexSpec.vars false (#[.string ByteArray.empty] : Array Value).toList 8 = some ([.lit (.string [])], [], places) :=
  ⟨[], by kernel_rfl⟩
set_option maxRecDepth 100000 in
theorem lifted (os : Os) (started : os.Started) (H : Type) (enc : TypeId × Value → H) (F : Stop.Interp) :
    ReturnsInHanded {} Tryd.checked os 5 .any ((OpenSpec.ofChange Rows.fnExactReadComplexSpec).preRow enc Tryd.prog Tryd.f5 Rows.fnExactReadComplexRow.domain false Rows.fnExactReadComplexRow.laid) (((OpenSpec.ofChange Rows.fnExactReadComplexSpec).at F).post enc Tryd.prog Tryd.f5 false true false false) := by
  obtain ⟨places, hx⟩ := reads os enc
  refine returnsInHanded_of_row (C := Tryd.checked) (s := OpenSpec.ofChange Rows.fnExactReadComplexSpec) own started (by kernel_rfl) Tryd.func5
    (witness_row_atRef (enc := enc) (C := Tryd.checked) false (worldR os) #[.string ByteArray.empty] rfl (by kernel_rfl) (by kernel_rfl) (by kernel_rfl)
      (OpenSpec.preRow_of_cond 8 hx (by kernel_rfl) (fun k hk => by cases hk) (by kernel_rfl) (laid_met os))) ?_
  intro W base args ds gs before hval hW _ _ _ hL hSh _
  exact contract H enc W base args ds gs before hval hW hL (Go.Proofs.cell_of_shapedOpen_int (zero := #[.int .i64 0]) (t := 3) hSh (of_decide_eq_true (by kernel_rfl)) (by kernel_rfl) rfl (by kernel_rfl) (by kernel_rfl) Tryd.underlying3)
theorem said : Rows.FnExactReadComplexSaid :=
  OpenClaim.holds_of_cond 5 Tryd.f5 rfl rfl rfl rfl rfl rfl rfl ⟨rfl, rfl, rfl, rfl, rfl⟩ rfl rfl rfl rfl rfl (by kernel_rfl) Tryd.func5 (by kernel_rfl)
    (of_decide_eq_true (by kernel_rfl)) (by unfold Func.isWrapper; first | (rw [if_pos (by decide +kernel)]; kernel_rfl) | (rw [if_neg (by decide +kernel)]; exact ⟨rfl, rfl⟩))
    (fun os started H enc _ F => by rw [OpenClaim.pre_eq_preRow]; exact lifted os started H enc F)
theorem plain (f : FuncId) (fn : Func) (hf : Tryd.pinned.checked.prog.funcNamed "loop.example/g01231/laws.FnExactReadComplex" = some f) (hfn : Tryd.pinned.checked.prog.funcs[f]? = some fn) :
    true = Tryd.pinned.checked.prog.looks [] ∧ ∀ (j : Nat) t, fn.params[j]? = some t → Tryd.pinned.checked.prog.wantsStandIn t = false := by
  obtain rfl : f = 5 := Option.some.inj ((show Tryd.prog.funcNamed "loop.example/g01231/laws.FnExactReadComplex" = some 5 by kernel_rfl).symm.trans hf) |>.symm
  obtain rfl : fn = Tryd.f5 := (Option.some.inj (Tryd.func5.symm.trans hfn)).symm
  refine ⟨by kernel_rfl, fun j t ht => ?_⟩
  rw [Tryd.params5] at ht
  obtain rfl : t = 9 := by simpa using Array.mem_of_getElem? ht
  exact (show Tryd.prog.wantsStandIn 9 = false by kernel_rfl)
theorem holds : Rows.FnExactReadComplexCardSaid :=
  Claim7.holds_tied_plain_at .later [] _ _ _ _ said (fun _ h => by cases h) (by kernel_rfl) (fun _ h => by cases h) fnExactReadComplex_row_tie rfl ⟨rfl, rfl⟩ (by kernel_rfl) rfl plain (by kernel_rfl)
#print axioms holds
end Go.Proofs.YtlpjclglhjcghaaDoor.fnExactReadComplex
