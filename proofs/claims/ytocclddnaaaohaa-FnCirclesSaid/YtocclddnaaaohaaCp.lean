/- Products of phasors: the check, and what it gives. No condition. -/
import Derived.Test.YtocclddnaaaohaaCe
import Derived.Test.YtocclddnaaaohaaKf
namespace Go.Proofs.Ytocclddnaaaohaa
open Go Go.RowKit Go.Proofs.Ytocclddnaaaohaa.Fl

/-- One part of a product, rounded to 32 bits and widened, is near e. -/
noncomputable def nearP (r e : Nat) : Bool := frc (fcv .f64 .f32 r) fun t => frc (fcv .f32 .f64 t) fun u => frc (gapV u e) fun g => leB g 4547007122018943789
noncomputable def chP (a b c d e f : Nat) : Bool :=
  frc (subN (mulN a c) (mulN b d)) fun r => bif nearP r e then frc (addN (mulN a d) (mulN b c)) fun s => nearP s f else false
noncomputable def rowC (a b : Nat) (L : List (Nat × Nat)) : List (Nat × Nat) → Bool :=
  List.rec (motive := fun _ => List (Nat × Nat) → Bool) (fun _ => true) (fun p _ ih M => List.rec (motive := fun _ => Bool) false (fun q M' _ => bif chP a b p.1 p.2 q.1 q.2 then ih M' else false) M) L
theorem rowC_all (a b : Nat) : ∀ (L M : List (Nat × Nat)), rowC a b L M = true → ∀ i, i < L.length → chP a b (L.getD i (0, 0)).1 (L.getD i (0, 0)).2 (M.getD i (0, 0)).1 (M.getD i (0, 0)).2 = true
  | [], _, _, i, hi => absurd hi (Nat.not_lt_zero _)
  | p :: L, [], h, _, _ => by cases h
  | p :: L, q :: M, h, i, hi => by
    have h' : (bif chP a b p.1 p.2 q.1 q.2 then rowC a b L M else false) = true := h
    cases hc : chP a b p.1 p.2 q.1 q.2 with
    | false => rw [hc] at h'; cases h'
    | true =>
      rw [hc, cond_true] at h'
      match i with
      | 0 => exact hc
      | i + 1 => exact rowC_all a b L M h' i (by simpa using hi)
noncomputable def rowK (k : Nat) : Bool := rowC (PW.getD k (0, 0)).1 (PW.getD k (0, 0)).2 PW (PW.drop k ++ PW.take k)
theorem pw_len : PW.length = 64 := by decide
theorem rot_at {k l : Nat} (hk : k < 64) (hl : l < 64) : (PW.drop k ++ PW.take k).getD l (0, 0) = PW.getD ((k + l) % 64) (0, 0) := by
  have h1 : (PW.drop k).length = 64 - k := by rw [List.length_drop, pw_len]
  rw [List.getD_eq_getElem?_getD, List.getD_eq_getElem?_getD]
  congr 1
  by_cases h : k + l < 64
  · rw [List.getElem?_append_left (by omega), List.getElem?_drop, Nat.mod_eq_of_lt h]
  · rw [List.getElem?_append_right (by omega), h1, List.getElem?_take_of_lt (by omega)]
    congr 1; omega
theorem le_num {g m : Nat} (h : leB g m = true) : nanB .f64 g = false := by
  cases hn : nanB .f64 g with
  | false => rfl
  | true =>
    exfalso
    unfold leB at h
    obtain ⟨s, t, hd⟩ := decode_nan hn
    have e : FloatKind.f64.format.order g m = none := by unfold Ieee.Format.order; rw [hd]; rfl
    rw [e] at h
    cases h
theorem gap_num {a b : Nat} (h : nanB .f64 (gapV a b) = false) : nanB .f64 a = false := by
  unfold gapV at h
  split at h
  · exact nan_right h
  · exact nan_left h
structure NearP (r e : Nat) : Prop where
  n0 : nanB .f64 r = false
  n1 : nanB .f32 (fcv .f64 .f32 r) = false
  n2 : nanB .f64 (fcv .f32 .f64 (fcv .f64 .f32 r)) = false
  n3 : nanB .f64 (gapV (fcv .f32 .f64 (fcv .f64 .f32 r)) e) = false
  le : leB (gapV (fcv .f32 .f64 (fcv .f64 .f32 r)) e) 4547007122018943789 = true
theorem nearP_of {r e : Nat} (h : nearP r e = true) : NearP r e := by
  unfold nearP at h
  simp only [frc_eq] at h
  have n3 := le_num h
  have n2 := gap_num n3
  have n1 := nan_cv (by decide) n2
  exact ⟨nan_cv (by decide) n1, n1, n2, n3, h⟩
theorem chP_of {a b c d e f : Nat} (h : chP a b c d e f = true) : NearP (mulRe a b c d) e ∧ NearP (mulIm a b c d) f := by
  unfold chP at h
  simp only [frc_eq] at h
  unfold mulRe mulIm
  rw [mulN_eq, mulN_eq, mulN_eq, mulN_eq, subN_eq, addN_eq]
  cases hc : nearP (subN (mulN a c) (mulN b d)) e with
  | false => rw [hc] at h; cases h
  | true =>
    rw [hc, cond_true] at h
    exact ⟨nearP_of hc, nearP_of h⟩
end Go.Proofs.Ytocclddnaaaohaa
