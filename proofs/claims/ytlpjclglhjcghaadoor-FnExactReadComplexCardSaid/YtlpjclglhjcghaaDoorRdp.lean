/- The number that a text spells in decimal: the plain law of ReadDecimal. No program. No condition. -/
import Derived.Lib.ParseIntBTie
import Derived.Lib.ParseIntBCases
import Derived.Lib.ItoaMem
import Derived.Lib.ItoaLen
namespace Go.Proofs.YtlpjclglhjcghaaDoor
open Go Go.Lib

/-- The digits of a text, read as a number; other bytes are passed over. -/
def num (l : List UInt8) : Nat := l.foldl (fun n c => if 48 ≤ c.toNat ∧ c.toNat ≤ 57 then 10 * n + (c.toNat - 48) else n) 0
theorem num_nil : num [] = 0 := rfl
theorem num_snoc (l : List UInt8) (c : UInt8) : num (l ++ [c]) = if 48 ≤ c.toNat ∧ c.toNat ≤ 57 then 10 * num l + (c.toNat - 48) else num l := by
  unfold num; rw [List.foldl_append]; rfl
theorem num_lt' : ∀ (l : List UInt8) (a : Nat), l.foldl (fun n c => if 48 ≤ c.toNat ∧ c.toNat ≤ 57 then 10 * n + (c.toNat - 48) else n) a < (a + 1) * 10 ^ l.length
  | [], a => by simp
  | c :: l, a => by
    rw [List.foldl_cons, List.length_cons, Nat.pow_succ]
    refine Nat.lt_of_lt_of_le (num_lt' l _) ?_
    rw [Nat.mul_comm (10 ^ l.length) 10, ← Nat.mul_assoc]
    refine Nat.mul_le_mul_right _ ?_
    split <;> omega
theorem num_lt (l : List UInt8) : num l < 10 ^ l.length := by
  have := num_lt' l 0
  rw [Nat.zero_add, Nat.one_mul] at this
  exact this
theorem digit_toNat {d : Nat} (h : d < 10) : (UInt8.ofNat (48 + d)).toNat = 48 + d := by
  rw [UInt8.toNat_ofNat']; omega
theorem dec_big {u : Nat} (h : ¬ u < 10) : decDigits u = decDigits (u / 10) ++ [UInt8.ofNat (48 + u % 10)] := by rw [decDigits, dif_neg h]
theorem num_dec : ∀ (u : Nat), num (decDigits u) = u := by
  intro u
  induction u using Nat.strongRecOn with
  | ind u ih =>
    by_cases h : u < 10
    · rw [decDigits_one h, show [UInt8.ofNat (48 + u)] = [] ++ [UInt8.ofNat (48 + u)] from rfl, num_snoc, digit_toNat h, num_nil, if_pos (by omega)]; omega
    · rw [dec_big h, num_snoc, ih (u / 10) (by omega), digit_toNat (by omega), if_pos (by omega)]; omega
theorem parse_dec (M : Nat) (hM : M ≤ 18446744073709551615) : ∀ (u : Nat) (r : List UInt8), u ≤ M → parseUintM M 0 (decDigits u ++ r) = parseUintM M u r := by
  intro u
  induction u using Nat.strongRecOn with
  | ind u ih =>
    intro r hu
    by_cases h : u < 10
    · rw [decDigits_one h, List.singleton_append, parseUintM, digit_toNat h, if_pos (by omega), if_neg (by omega), if_neg (by omega)]
      congr 1; omega
    · rw [dec_big h, List.append_assoc, ih (u / 10) (by omega) _ (by omega), List.singleton_append, parseUintM, digit_toNat (by omega), if_pos (by omega), if_neg (by omega), if_neg (by omega)]
      congr 1; omega
theorem dec_head (u : Nat) : ∃ c r, decDigits u = c :: r ∧ 48 ≤ c.toNat ∧ c.toNat ≤ 57 := by
  induction u using Nat.strongRecOn with
  | ind u ih =>
    by_cases h : u < 10
    · exact ⟨_, [], decDigits_one h, by rw [digit_toNat h]; omega, by rw [digit_toNat h]; omega⟩
    · obtain ⟨c, r, e, h1, h2⟩ := ih (u / 10) (by omega)
      exact ⟨c, r ++ [_], by rw [dec_big h, e]; rfl, h1, h2⟩
theorem parseU_dec (u : Nat) (h : u ≤ 1000000000000000) : parseUintB 64 (decDigits u) = .ok u := by
  obtain ⟨c, r, e, _, _⟩ := dec_head u
  unfold parseUintB
  rw [if_neg (by rw [e]; simp)]
  have := parse_dec (2 ^ 64 - 1) (by decide) u [] (by have : (2 : Nat) ^ 64 - 1 = 18446744073709551615 := by decide
                                                      omega)
  rw [List.append_nil] at this
  rw [this]; rfl
theorem parse_itoa (n : Int) (h1 : -1000000000000000 ≤ n) (h2 : n ≤ 1000000000000000) : parseIntB 64 (itoa n) = .ok n := by
  by_cases hn : n < 0
  · obtain ⟨u, rfl⟩ : ∃ u : Nat, n = -(u : Int) := ⟨n.natAbs, by omega⟩
    rw [itoa_neg u (by omega), parseIntB_minus, parseU_dec u (by omega)]
    have hp : (2 : Nat) ^ (64 - 1) = 9223372036854775808 := by decide
    show (if 2 ^ (64 - 1) < u then NumEnd.range else NumEnd.ok (-(u : Int))) = _
    rw [if_neg (by omega)]
  · obtain ⟨u, rfl⟩ : ∃ u : Nat, n = u := ⟨n.toNat, by omega⟩
    obtain ⟨c, r, e, c1, c2⟩ := dec_head u
    rw [itoa_nonneg, e, parseIntB_plain _ _ _ (by omega) (by omega), ← e, parseU_dec u (by omega)]
    have hp : (2 : Nat) ^ (64 - 1) = 9223372036854775808 := by decide
    show (if 2 ^ (64 - 1) ≤ u then NumEnd.range else NumEnd.ok (u : Int)) = _
    rw [if_neg (by omega)]
/-- The number with a text, signed by its first byte. -/
def snum (l : List UInt8) : Int := if l.head? = some 45 then -(num l : Int) else num l
theorem snum_itoa (n : Int) : snum (itoa n) = n := by
  by_cases hn : n < 0
  · obtain ⟨u, rfl⟩ : ∃ u : Nat, n = -(u : Int) := ⟨n.natAbs, by omega⟩
    rw [itoa_neg u (by omega)]
    unfold snum
    rw [if_pos (by rfl)]
    have : num (45 :: decDigits u) = num (decDigits u) := rfl
    rw [this, num_dec]
  · obtain ⟨u, rfl⟩ : ∃ u : Nat, n = u := ⟨n.toNat, by omega⟩
    obtain ⟨c, r, e, c1, c2⟩ := dec_head u
    unfold snum
    rw [itoa_nonneg, if_neg (by rw [e]; rintro h; simp only [List.head?_cons, Option.some.injEq] at h; rw [h] at c1; revert c1; decide), num_dec]
/-- It is from -MaxValue to MaxValue. -/
def okVal (n : Int) : Bool := decide (-1000000000000000 ≤ n ∧ n ≤ 1000000000000000)
/-- The number with a text: what ReadDecimal returns. -/
def rdD (l : List UInt8) : Option Int := if okVal (snum l) = true ∧ itoa (snum l) = l then some (snum l) else none
theorem nd_le : ∀ (k u : Nat), u < 10 ^ (k + 1) → nDigits u ≤ k + 1
  | 0, u, h => by rw [nDigits_small (by simpa using h)]; exact Nat.le_refl _
  | k + 1, u, h => by
    by_cases h0 : u < 10
    · rw [nDigits_small h0]; omega
    · rw [nDigits_big h0]
      have := nd_le k (u / 10) (by rw [Nat.pow_succ] at h; omega)
      omega
theorem itoa_len17 (n : Int) (h : okVal n = true) : 1 ≤ (itoa n).length ∧ (itoa n).length ≤ 17 := by
  have h' := of_decide_eq_true h
  have hl : ∀ u : Nat, u ≤ 1000000000000000 → 1 ≤ (decDigits u).length ∧ (decDigits u).length ≤ 16 := fun u hu => by
    rw [decDigits_length]
    exact ⟨nDigits_pos u, nd_le 15 u (by omega)⟩
  by_cases hn : n < 0
  · obtain ⟨u, rfl⟩ : ∃ u : Nat, n = -(u : Int) := ⟨n.natAbs, by omega⟩
    rw [itoa_neg u (by omega), List.length_cons]
    have := hl u (by omega); omega
  · obtain ⟨u, rfl⟩ : ∃ u : Nat, n = u := ⟨n.toNat, by omega⟩
    rw [itoa_nonneg]
    have := hl u (by omega); omega
theorem rdD_len {l : List UInt8} (h : ¬ (1 ≤ l.length ∧ l.length ≤ 17)) : rdD l = none := by
  unfold rdD
  rw [if_neg]
  rintro ⟨h1, h2⟩
  have := itoa_len17 _ h1
  rw [h2] at this; exact h this
/-- What the program's way gives. -/
theorem rdD_ok {l : List UInt8} {v : Int} (h : parseIntB 64 l = .ok v) : rdD l = if okVal v = true ∧ itoa v = l then some v else none := by
  by_cases hv : okVal v = true ∧ itoa v = l
  · rw [if_pos hv]
    obtain ⟨h1, h2⟩ := hv
    have : snum l = v := by rw [← h2]; exact snum_itoa v
    unfold rdD; rw [this, if_pos ⟨h1, h2⟩]
  · rw [if_neg hv]
    unfold rdD
    rw [if_neg]
    rintro ⟨h1, h2⟩
    have h3 := of_decide_eq_true h1
    have := parse_itoa _ h3.1 h3.2
    rw [h2, h] at this
    injection this with this
    rw [← this] at h1 h2
    exact hv ⟨h1, h2⟩
theorem rdD_bad {l : List UInt8} (h : ∀ v, parseIntB 64 l ≠ .ok v) : rdD l = none := by
  unfold rdD
  rw [if_neg]
  rintro ⟨h1, h2⟩
  have h3 := of_decide_eq_true h1
  have := parse_itoa _ h3.1 h3.2
  rw [h2] at this
  exact h _ this
end Go.Proofs.YtlpjclglhjcghaaDoor
