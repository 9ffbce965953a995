/- Tenths of decibels of all products of two numbers up to 200. No program. No condition. -/
import Derived.Test.YtocclddnaaaohaaKc0
import Derived.Test.YtocclddnaaaohaaKc1
import Derived.Test.YtocclddnaaaohaaKc2
import Derived.Test.YtocclddnaaaohaaKc3
namespace Go.Proofs.Ytocclddnaaaohaa.Fl
open Go Ieee
theorem cAll : ∀ i, i < 100 → chkA (2 * i + 1) = true
  | 0, _ => cA1
  | 1, _ => cA3
  | 2, _ => cA5
  | 3, _ => cA7
  | 4, _ => cA9
  | 5, _ => cA11
  | 6, _ => cA13
  | 7, _ => cA15
  | 8, _ => cA17
  | 9, _ => cA19
  | 10, _ => cA21
  | 11, _ => cA23
  | 12, _ => cA25
  | 13, _ => cA27
  | 14, _ => cA29
  | 15, _ => cA31
  | 16, _ => cA33
  | 17, _ => cA35
  | 18, _ => cA37
  | 19, _ => cA39
  | 20, _ => cA41
  | 21, _ => cA43
  | 22, _ => cA45
  | 23, _ => cA47
  | 24, _ => cA49
  | 25, _ => cA51
  | 26, _ => cA53
  | 27, _ => cA55
  | 28, _ => cA57
  | 29, _ => cA59
  | 30, _ => cA61
  | 31, _ => cA63
  | 32, _ => cA65
  | 33, _ => cA67
  | 34, _ => cA69
  | 35, _ => cA71
  | 36, _ => cA73
  | 37, _ => cA75
  | 38, _ => cA77
  | 39, _ => cA79
  | 40, _ => cA81
  | 41, _ => cA83
  | 42, _ => cA85
  | 43, _ => cA87
  | 44, _ => cA89
  | 45, _ => cA91
  | 46, _ => cA93
  | 47, _ => cA95
  | 48, _ => cA97
  | 49, _ => cA99
  | 50, _ => cA101
  | 51, _ => cA103
  | 52, _ => cA105
  | 53, _ => cA107
  | 54, _ => cA109
  | 55, _ => cA111
  | 56, _ => cA113
  | 57, _ => cA115
  | 58, _ => cA117
  | 59, _ => cA119
  | 60, _ => cA121
  | 61, _ => cA123
  | 62, _ => cA125
  | 63, _ => cA127
  | 64, _ => cA129
  | 65, _ => cA131
  | 66, _ => cA133
  | 67, _ => cA135
  | 68, _ => cA137
  | 69, _ => cA139
  | 70, _ => cA141
  | 71, _ => cA143
  | 72, _ => cA145
  | 73, _ => cA147
  | 74, _ => cA149
  | 75, _ => cA151
  | 76, _ => cA153
  | 77, _ => cA155
  | 78, _ => cA157
  | 79, _ => cA159
  | 80, _ => cA161
  | 81, _ => cA163
  | 82, _ => cA165
  | 83, _ => cA167
  | 84, _ => cA169
  | 85, _ => cA171
  | 86, _ => cA173
  | 87, _ => cA175
  | 88, _ => cA177
  | 89, _ => cA179
  | 90, _ => cA181
  | 91, _ => cA183
  | 92, _ => cA185
  | 93, _ => cA187
  | 94, _ => cA189
  | 95, _ => cA191
  | 96, _ => cA193
  | 97, _ => cA195
  | 98, _ => cA197
  | 99, _ => cA199
  | n + 100, h => absurd h (by omega)
theorem odd_part : ∀ k : Nat, 0 < k → ∃ a i, k = (2 * a + 1) * 2 ^ i := by
  intro k
  induction k using Nat.strongRecOn with
  | _ k ih =>
    intro hk
    rcases Nat.mod_two_eq_zero_or_one k with h | h
    · obtain ⟨a, i, e⟩ := ih (k / 2) (by omega) (by omega)
      refine ⟨a, i + 1, ?_⟩
      rw [Nat.pow_succ, ← Nat.mul_assoc, ← e]; omega
    · exact ⟨k / 2, 0, by rw [Nat.pow_zero]; omega⟩
theorem chk_odd {a b j : Nat} (h : a ≤ b) (hb : b < 100) (hj : (2 * a + 1) * (2 * b + 1) * 2 ^ j ≤ 40000) : chk ((2 * a + 1) * (2 * b + 1) * 2 ^ j) = true := by
  have h1 := chkA_all (cAll a (by omega)) (b - a) (by omega) (by omega)
  rw [show 2 * a + 1 + 2 * (b - a) = 2 * b + 1 by omega] at h1
  refine chkJ_all h1 j ?_ hj
  refine Nat.lt_of_not_le fun hge => ?_
  have h2 : 2 ^ 16 ≤ 2 ^ j := Nat.pow_le_pow_right (by decide) hge
  have h3 : 2 ^ j ≤ (2 * a + 1) * (2 * b + 1) * 2 ^ j := Nat.le_mul_of_pos_left _ (Nat.mul_pos (by omega) (by omega))
  have h4 : (2 : Nat) ^ 16 = 65536 := by decide
  omega
theorem chk_mul {k l : Nat} (hk : 1 ≤ k) (hk2 : k ≤ 200) (hl : 1 ≤ l) (hl2 : l ≤ 200) : chk (k * l) = true := by
  obtain ⟨a, i, rfl⟩ := odd_part k hk
  obtain ⟨b, j, rfl⟩ := odd_part l hl
  have ha : 2 * a + 1 ≤ (2 * a + 1) * 2 ^ i := Nat.le_mul_of_pos_right _ (Nat.two_pow_pos i)
  have hb : 2 * b + 1 ≤ (2 * b + 1) * 2 ^ j := Nat.le_mul_of_pos_right _ (Nat.two_pow_pos j)
  have hle : (2 * a + 1) * 2 ^ i * ((2 * b + 1) * 2 ^ j) ≤ 40000 := Nat.mul_le_mul hk2 hl2
  have e : (2 * a + 1) * 2 ^ i * ((2 * b + 1) * 2 ^ j) = (2 * a + 1) * (2 * b + 1) * 2 ^ (i + j) := by rw [Nat.pow_add]; ac_rfl
  have e2 : (2 * a + 1) * 2 ^ i * ((2 * b + 1) * 2 ^ j) = (2 * b + 1) * (2 * a + 1) * 2 ^ (i + j) := by rw [Nat.pow_add]; ac_rfl
  rcases Nat.le_total a b with h | h
  · rw [e] at hle ⊢
    exact chk_odd h (by omega) hle
  · rw [e2] at hle ⊢
    exact chk_odd h (by omega) hle
end Go.Proofs.Ytocclddnaaaohaa.Fl
