/- Eight hexadecimal digits: the plain law. No condition. -/
import Derived.Test.YtlpjclglhjcghaaDoorHx
namespace Go.Proofs.YtlpjclglhjcghaaDoor
open Go Go.RowKit Go.Lib

/-- The last k hexadecimal digits of a number. -/
def padH : Nat → Nat → List UInt8
  | 0, _ => []
  | k + 1, u => padH k (u / 16) ++ [hexc (u % 16)]
theorem padH_len : ∀ (k u : Nat), (padH k u).length = k
  | 0, _ => rfl
  | k + 1, u => by rw [padH, List.length_append, padH_len k]; rfl
theorem padH_zero : ∀ k, padH k 0 = List.replicate k 48
  | 0 => rfl
  | k + 1 => by rw [padH, Nat.zero_div, padH_zero k, List.replicate_succ']; rfl
theorem pad_hexd : ∀ (k u : Nat), u < 16 ^ (k + 1) → List.replicate (k + 1 - (hexd u).length) 48 ++ hexd u = padH (k + 1) u
  | 0, u, h => by
    have h' : u < 16 := by simpa using h
    rw [hexd_small h', padH, padH, Nat.mod_eq_of_lt h']; rfl
  | k + 1, u, h => by
    by_cases h' : u < 16
    · rw [hexd_small h', padH, Nat.div_eq_of_lt h', padH_zero, Nat.mod_eq_of_lt h']; rfl
    · have ih := pad_hexd k (u / 16) (by rw [Nat.pow_succ] at h; omega)
      rw [hexd_big h', padH, ← ih, List.length_append, List.append_assoc]
      congr 2
      simp
end Go.Proofs.YtlpjclglhjcghaaDoor
