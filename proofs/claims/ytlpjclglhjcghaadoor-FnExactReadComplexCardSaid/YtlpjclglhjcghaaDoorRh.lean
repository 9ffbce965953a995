/- Numbers of eight hexadecimal digits, read: the plain law. No program. No condition. -/
import Derived.Test.YtlpjclglhjcghaaDoorHt
namespace Go.Proofs.YtlpjclglhjcghaaDoor
open Go Go.RowKit Go.Lib

/-- A small hexadecimal digit. -/
def sdig (c : UInt8) : Option Nat := if 48 ≤ c.toNat ∧ c.toNat ≤ 57 then some (c.toNat - 48) else if 97 ≤ c.toNat ∧ c.toNat ≤ 102 then some (c.toNat - 87) else none
/-- The bit 32 set. -/
def lowI (c : UInt8) : Int := bits .or .u8 (c.toNat : Int) 32
/-- A hexadecimal digit, great or small. -/
def dig16 (c : UInt8) : Option Nat := if 48 ≤ c.toNat ∧ c.toNat ≤ 57 then some (c.toNat - 48) else if 97 ≤ lowI c ∧ lowI c ≤ 102 then some (lowI c - 87).toNat else none
/-- What a reading of a number of 32 bits gives. -/
inductive PR where
  | ok (n : Nat)
  | syn
  | rng
/-- The reading of digits at base 16, behind the number n. -/
def pu16 : Nat → List UInt8 → PR
  | n, [] => .ok n
  | n, c :: l => match dig16 c with
    | none => .syn
    | some d => if 4294967295 < 16 * n + d then .rng else pu16 (16 * n + d) l
/-- The reading of small digits, behind the number n. -/
def sfold : Nat → List UInt8 → Option Nat
  | n, [] => some n
  | n, c :: l => match sdig c with
    | none => none
    | some d => sfold (16 * n + d) l
theorem sdig_cases : ∀ k : Fin 256, sdig (UInt8.ofNat k.val) = none ∨ ∃ d : Fin 16, sdig (UInt8.ofNat k.val) = some d.val ∧ UInt8.ofNat k.val = hexc d.val ∧ dig16 (UInt8.ofNat k.val) = some d.val := by decide +kernel
theorem sdig_some {c : UInt8} {d : Nat} (h : sdig c = some d) : d < 16 ∧ c = hexc d ∧ dig16 c = some d := by
  have e : UInt8.ofNat c.toNat = c := by simp
  rcases sdig_cases ⟨c.toNat, c.toNat_lt⟩ with h1 | ⟨x, h1, h2, h3⟩
  · simp only [e] at h1; rw [h1] at h; cases h
  · simp only [e] at h1 h2 h3
    rw [h1] at h
    obtain rfl := Option.some.inj h
    exact ⟨x.isLt, h2, h3⟩
theorem sdig_hexc : ∀ d : Fin 16, sdig (hexc d.val) = some d.val := by decide +kernel
theorem sfold_snoc : ∀ (l : List UInt8) (n : Nat) (c : UInt8), sfold n (l ++ [c]) = (sfold n l).bind fun m => (sdig c).map fun d => 16 * m + d
  | [], n, c => by
    simp only [List.nil_append, sfold]
    cases sdig c <;> rfl
  | b :: l, n, c => by
    simp only [List.cons_append, sfold]
    cases sdig b with
    | none => rfl
    | some d => exact sfold_snoc l _ c
theorem sfold_pad : ∀ (k N : Nat), N < 16 ^ k → sfold 0 (padH k N) = some N
  | 0, N, h => by
    obtain rfl : N = 0 := by simpa using h
    rfl
  | k + 1, N, h => by
    rw [padH, sfold_snoc, sfold_pad k (N / 16) (by rw [Nat.pow_succ] at h; omega)]
    have := sdig_hexc ⟨N % 16, Nat.mod_lt _ (by decide)⟩
    simp only at this
    simp only [Option.bind_some, this, Option.map_some]
    congr 1
    exact Nat.div_add_mod N 16
theorem list_snoc {l : List UInt8} {k : Nat} (h : l.length = k + 1) : ∃ l' c, l = l' ++ [c] ∧ l'.length = k := by
  have hne : l ≠ [] := fun e => by rw [e] at h; cases h
  exact ⟨l.dropLast, l.getLast hne, (List.dropLast_concat_getLast hne).symm, by rw [List.length_dropLast, h]; rfl⟩
theorem pad_of_sfold : ∀ (k : Nat) (l : List UInt8) (N : Nat), l.length = k → sfold 0 l = some N → l = padH k N ∧ N < 16 ^ k
  | 0, l, N, hl, h => by
    obtain rfl := List.length_eq_zero_iff.1 hl
    obtain rfl := Option.some.inj h
    exact ⟨rfl, by decide⟩
  | k + 1, l, N, hl, h => by
    obtain ⟨l', c, rfl, hl'⟩ := list_snoc hl
    rw [sfold_snoc] at h
    cases hm : sfold 0 l' with
    | none => rw [hm] at h; cases h
    | some m =>
      rw [hm, Option.bind_some] at h
      cases hd : sdig c with
      | none => rw [hd] at h; cases h
      | some d =>
        rw [hd, Option.map_some] at h
        obtain rfl := Option.some.inj h
        obtain ⟨hd1, hd2, _⟩ := sdig_some hd
        obtain ⟨h1, h2⟩ := pad_of_sfold k l' m hl' hm
        refine ⟨?_, by rw [Nat.pow_succ]; omega⟩
        rw [padH, show (16 * m + d) / 16 = m by omega, show (16 * m + d) % 16 = d by omega, ← h1, ← hd2]
theorem sfold_ge : ∀ (l : List UInt8) (n N : Nat), sfold n l = some N → n ≤ N
  | [], n, N, h => by obtain rfl := Option.some.inj h; exact Nat.le_refl _
  | c :: l, n, N, h => by
    unfold sfold at h
    cases hd : sdig c with
    | none => rw [hd] at h; cases h
    | some d =>
      rw [hd] at h
      have := sfold_ge l _ N h
      omega
theorem pu_of_sfold : ∀ (l : List UInt8) (n N : Nat), N < 4294967296 → sfold n l = some N → pu16 n l = .ok N
  | [], n, N, _, h => by obtain rfl := Option.some.inj h; rfl
  | c :: l, n, N, hN, h => by
    unfold sfold at h
    cases hd : sdig c with
    | none => rw [hd] at h; cases h
    | some d =>
      rw [hd] at h
      have h1 := sfold_ge l _ N h
      unfold pu16
      rw [(sdig_some hd).2.2]
      simp only
      rw [if_neg (by omega)]
      exact pu_of_sfold l _ N hN h
theorem pu_lt : ∀ (l : List UInt8) (n N : Nat), n < 4294967296 → pu16 n l = .ok N → N < 4294967296
  | [], n, N, hn, h => by injection h with h; omega
  | c :: l, n, N, hn, h => by
    unfold pu16 at h
    cases hd : dig16 c with
    | none => rw [hd] at h; cases h
    | some d =>
      rw [hd] at h
      simp only at h
      split at h
      · cases h
      · exact pu_lt l _ N (by omega) h
/-- The number with a text of eight small hexadecimal digits. -/
def rdH (l : List UInt8) : Option Nat := if l.length = 8 then (sfold 0 l).bind fun N => if bitN N = N then some N else none else none
theorem bitN_idem (x : Nat) : bitN (bitN x) = bitN x := Fl.nz_nz .f32 x
theorem rdH_len {l : List UInt8} (h : l.length ≠ 8) : rdH l = none := if_neg h
theorem rdH_bad {l : List UInt8} (h : sfold 0 l = none) : rdH l = none := by unfold rdH; rw [h]; split <;> rfl
theorem rdH_at {l : List UInt8} {N : Nat} (hl : l.length = 8) (h : sfold 0 l = some N) : rdH l = if bitN N = N then some N else none := by unfold rdH; rw [if_pos hl, h]; rfl
theorem rdH_lt {l : List UInt8} {N : Nat} (h : rdH l = some N) : N < 2 ^ 32 := by
  unfold rdH at h
  split at h
  · rename_i hl
    cases hs : sfold 0 l with
    | none => rw [hs] at h; cases h
    | some M =>
      rw [hs, Option.bind_some] at h
      split at h
      · obtain rfl := Option.some.inj h
        exact (pad_of_sfold 8 l M hl hs).2
      · cases h
  · cases h
/-- What the program's reading gives is just that. -/
theorem rdH_ok {l : List UInt8} {n : Nat} (h : pu16 0 l = .ok n) : rdH l = if hxT n = l then some n else none := by
  by_cases he : hxT n = l
  · rw [if_pos he]
    have hn := pu_lt l 0 n (by decide) h
    have hs := sfold_pad 8 (bitN n) (show bitN n < 16 ^ 8 from bitN_lt hn)
    rw [show padH 8 (bitN n) = l from he] at hs
    have h2 := pu_of_sfold l 0 (bitN n) (bitN_lt hn) hs
    rw [h] at h2
    injection h2 with h2
    rw [rdH_at (by rw [← he]; exact hxT_len n) hs, if_pos (bitN_idem n), ← h2]
  · rw [if_neg he]
    by_cases hl : l.length = 8
    · cases hs : sfold 0 l with
      | none => exact rdH_bad hs
      | some N =>
        obtain ⟨h1, h2⟩ := pad_of_sfold 8 l N hl hs
        have h3 := pu_of_sfold l 0 N h2 hs
        rw [h] at h3
        injection h3 with h3
        subst h3
        rw [rdH_at hl hs, if_neg (fun e => he (by unfold hxT; rw [e]; exact h1.symm))]
    · exact rdH_len hl
theorem rdH_no {l : List UInt8} (h : ∀ n, pu16 0 l ≠ .ok n) : rdH l = none := by
  by_cases hl : l.length = 8
  · cases hs : sfold 0 l with
    | none => exact rdH_bad hs
    | some N => exact absurd (pu_of_sfold l 0 N (pad_of_sfold 8 l N hl hs).2 hs) (h N)
  · exact rdH_len hl
end Go.Proofs.YtlpjclglhjcghaaDoor
