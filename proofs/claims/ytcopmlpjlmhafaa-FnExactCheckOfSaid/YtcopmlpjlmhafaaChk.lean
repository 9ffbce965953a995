/- The walks of CheckOf, of the program and of the reference. No condition. -/
import Derived.Test.YtcopmlpjlmhafaaFl
import Derived.Test.YtcopmlpjlmhafaaChecked
import Derived.KernelRfl
namespace Go.Proofs.Ytcopmlpjlmhafaa
open Go.RowKit Go.Proofs.Ytcopmlpjlmhafaa.Fl

/-- The check number of a text. -/
def chk (n : Int) (l : List UInt8) : Int := l.foldl (fun n c => (733 * n + (c.toNat : Int) + 61) % 65003) n
theorem chk_bd (l : List UInt8) : ∀ n : Int, 0 ≤ n → n ≤ 65002 → 0 ≤ chk n l ∧ chk n l ≤ 65002 := by
  induction l with
  | nil => intro n h1 h2; exact ⟨h1, h2⟩
  | cons c l ih => intro n h1 h2; exact ih ((733 * n + (c.toNat : Int) + 61) % 65003) (by omega) (by omega)
theorem chk_snoc (n : Int) (l : List UInt8) (c : UInt8) : chk n (l ++ [c]) = (733 * chk n l + (c.toNat : Int) + 61) % 65003 := by
  unfold chk; rw [List.foldl_append]; rfl
theorem take_snoc (s : ByteArray) (k : Nat) (h : k < s.size) : s.data.toList.take (k + 1) = s.data.toList.take k ++ [s[k]] := by
  rw [List.take_succ_eq_append_getElem (by simpa using h)]; rfl
theorem ret_i64 {a b : Int} (h : a = b) : Ending.returned (.int .i64 a) = .returned (.int .i64 b) := by rw [h]

set_option maxHeartbeats 400000 in
theorem specChk_any (n : Int) (s : ByteArray) (w : World) (hs : s.size ≤ maxLen) (h1 : 0 ≤ n) (h2 : n ≤ 65002) :
    Calls Try.prog 31 #[.int .i64 n, .string s] w fun e w' => e = .returned (.int .i64 (chk n s.data.toList)) ∧ w' = w := by
  unfold maxLen at hs
  go_enter Try.func31, Try.ntmps31
  go_wp2
  go_loop [0, 5] (fun m i => ∃ k : Nat, k ≤ s.size ∧ i = .int .i64 k ∧ m = .int .i64 (chk n (s.data.toList.take k))) (fun _ i => s.size - (intOf i).toNat)
  case atStart => exact ⟨0, Nat.zero_le _, rfl, rfl⟩
  case round =>
    obtain ⟨k, hk, rfl, rfl⟩ := hrel
    obtain ⟨b1, b2⟩ := chk_bd (s.data.toList.take k) n h1 h2
    by_cases hlt : k < s.size
    · have HS : Hid (chk n (s.data.toList.take (k + 1)) = (733 * chk n (s.data.toList.take k) + (s[k].toNat : Int) + 61) % 65003) := by unfold Hid; rw [take_snoc s k hlt, chk_snoc]
      have hc : (s[k].toNat : Int) < 256 := by have := s[k].toNat_lt; omega
      go_wp2
      go_round
      case rel => exact ⟨k + 1, by omega, by go_num, by rw [HS.out]⟩
      case measure => simp [intOf]; omega
    · go_wp2
      go_ret
      exact ⟨ret_i64 (by rw [List.take_of_length_le (by simp; omega)]), rfl⟩

set_option maxHeartbeats 400000 in
theorem implCheck_yes (n : Int) (s : ByteArray) (w : World) (hs : s.size ≤ maxLen) (h1 : 0 ≤ n) (h2 : n ≤ 65002) :
    Calls Try.prog 22 #[.int .i64 n, .string s] w fun e w' => e = .returned (.tuple #[.int .i64 (chk n s.data.toList), .bool true]) ∧ w' = w := by
  unfold maxLen at hs
  go_enter Try.func22, Try.ntmps22
  go_wp2
  go_loop [0, 12] (fun m i => ∃ k : Nat, k ≤ s.size ∧ i = .int .i64 k ∧ m = .int .i64 (chk n (s.data.toList.take k))) (fun _ i => s.size - (intOf i).toNat)
  case atStart => exact ⟨0, Nat.zero_le _, rfl, rfl⟩
  case round =>
    obtain ⟨k, hk, rfl, rfl⟩ := hrel
    obtain ⟨b1, b2⟩ := chk_bd (s.data.toList.take k) n h1 h2
    by_cases hlt : k < s.size
    · have HS : Hid (chk n (s.data.toList.take (k + 1)) = (733 * chk n (s.data.toList.take k) + (s[k].toNat : Int) + 61) % 65003) := by unfold Hid; rw [take_snoc s k hlt, chk_snoc]
      have hc : (s[k].toNat : Int) < 256 := by have := s[k].toNat_lt; omega
      go_wp2
      go_round
      case rel => exact ⟨k + 1, by omega, by go_num, by rw [HS.out]⟩
      case measure => simp [intOf]; omega
    · go_wp2
      go_ret2
      exact ⟨by rw [List.take_of_length_le (by simp; omega)]; rfl, rfl⟩

theorem implCheck_no (n : Int) (s : ByteArray) (w : World) (h : n < 0 ∨ 65002 < n) :
    Calls Try.prog 22 #[.int .i64 n, .string s] w fun e w' => e = .returned (.tuple #[.int .i64 0, .bool false]) ∧ w' = w := by
  rcases h with h | h
  · go_enter Try.func22, Try.ntmps22
    go_wp2
    go_ret2
    exact ⟨rfl, rfl⟩
  · have h' : 0 ≤ n := by omega
    have hd : decide (n ≤ 65002) = false := by simp; omega
    go_enter Try.func22, Try.ntmps22
    go_wp2
    go_ret2
    exact ⟨rfl, rfl⟩

theorem specCheck_yes (n : Int) (s : ByteArray) (w : World) (hs : s.size ≤ maxLen) (h1 : 0 ≤ n) (h2 : n ≤ 65002) :
    Calls Try.prog 21 #[.int .i64 n, .string s] w fun e w' => e = .returned (.tuple #[.int .i64 (chk n s.data.toList), .bool true]) ∧ w' = w := by
  go_enter Try.func21, Try.ntmps21
  go_wp2_with (first | (go_at_call 31; refine (specChk_any _ _ _ hs h1 h2).mono ?_; rintro e w1 ⟨rfl, rfl⟩) | go_in)
  go_ret2
  exact ⟨rfl, rfl⟩

theorem specCheck_no (n : Int) (s : ByteArray) (w : World) (h : n < 0 ∨ 65002 < n) :
    Calls Try.prog 21 #[.int .i64 n, .string s] w fun e w' => e = .returned (.tuple #[.int .i64 0, .bool false]) ∧ w' = w := by
  rcases h with h | h
  · go_enter Try.func21, Try.ntmps21
    go_wp2
    go_ret2
    exact ⟨rfl, rfl⟩
  · have h' : 0 ≤ n := by omega
    have hd : decide (n ≤ 65002) = false := by simp; omega
    go_enter Try.func21, Try.ntmps21
    go_wp2
    go_ret2
    exact ⟨rfl, rfl⟩
end Go.Proofs.Ytcopmlpjlmhafaa
