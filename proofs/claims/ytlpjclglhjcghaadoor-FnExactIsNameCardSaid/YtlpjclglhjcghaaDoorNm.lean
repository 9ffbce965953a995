/- The walks of IsName, of the program and of the reference. No condition. -/
import Derived.Test.YtlpjclglhjcghaaDoorCmn
import Derived.Test.YtlpjclglhjcghaaDoorStr
import Derived.Lib.Hide
import Derived.Laws.IdiomStrings
namespace Go.Proofs.YtlpjclglhjcghaaDoor
open Go.RowKit Go.Lib

/-- A small letter. -/
def letter (c : UInt8) : Bool := decide (97 ≤ c.toNat ∧ c.toNat ≤ 122)
/-- A text is a name. -/
def isNm (l : List UInt8) : Bool := decide (1 ≤ l.length ∧ l.length ≤ 8) && l.all letter
def abc : List UInt8 := [97, 98, 99, 100, 101, 102, 103, 104, 105, 106, 107, 108, 109, 110, 111, 112, 113, 114, 115, 116, 117, 118, 119, 120, 121, 122]
theorem abc_letter : ∀ c : UInt8, abc.contains c = letter c := by
  intro c
  have h : ∀ n : Fin 256, abc.contains (UInt8.ofNat n.val) = letter (UInt8.ofNat n.val) := by decide +kernel
  have := h ⟨c.toNat, c.toNat_lt⟩
  simpa using this
theorem drop_nil {p : UInt8 → Bool} : ∀ l : List UInt8, l.dropWhile p = [] ↔ l.all p = true
  | [] => by simp
  | a :: l => by
    rw [List.dropWhile_cons, List.all_cons]
    cases h : p a
    · simp
    · simpa using drop_nil l
theorem drop_or {p : UInt8 → Bool} : ∀ l : List UInt8, l.dropWhile p = [] ∨ ∃ a t, l.dropWhile p = a :: t ∧ p a = false
  | [] => .inl rfl
  | a :: l => by
    rw [List.dropWhile_cons]
    cases h : p a
    · exact .inr ⟨a, l, by simp, h⟩
    · simpa using drop_or l
theorem trim_abc (l : List UInt8) : (Lib.trimS l abc = []) ↔ l.all letter = true := by
  unfold trimS trimLeftS trimRightS
  have e : (fun c => abc.contains c) = letter := funext abc_letter
  rw [e, drop_nil]
  constructor
  · intro h
    rcases drop_or (p := letter) l.reverse with hn | ⟨a, t, hat, ha⟩
    · rw [drop_nil] at hn; simpa using hn
    · rw [hat] at h
      rw [List.all_eq_true] at h
      have := h a (by simp)
      rw [ha] at this; cases this
  · intro h
    have : l.reverse.dropWhile letter = [] := by rw [drop_nil]; simpa using h
    rw [this]; rfl
theorem trim_emp (s : ByteArray) : (Lib.trimS s.data.toList abc).isEmpty = s.data.toList.all letter := by
  rw [Bool.eq_iff_iff, ← trim_abc, List.isEmpty_iff]
theorem trimLow (s : ByteArray) (w : World) (hs : s.size ≤ 9223372036854775807) :
    Calls Tryd.prog 51 #[.string s, .string ⟨#[97, 98, 99, 100, 101, 102, 103, 104, 105, 106, 107, 108, 109, 110, 111, 112, 113, 114, 115, 116, 117, 118, 119, 120, 121, 122]⟩] w fun e w' => e = .returned (.string ⟨(Lib.trimS s.data.toList abc).toArray⟩) ∧ Below w.heap.size w w' :=
  Any.strings_Trim_laid Tryd.lays160 (by kernel_rfl) s ⟨#[97, 98, 99, 100, 101, 102, 103, 104, 105, 106, 107, 108, 109, 110, 111, 112, 113, 114, 115, 116, 117, 118, 119, 120, 121, 122]⟩ w hs (by decide) (ascii_of_all (by decide))
theorem isNm_short (l : List UInt8) (h : ¬ (1 ≤ l.length ∧ l.length ≤ 8)) : isNm l = false := by unfold isNm; rw [decide_eq_false h]; rfl
theorem isNm_mid (l : List UInt8) (h : 1 ≤ l.length ∧ l.length ≤ 8) : isNm l = l.all letter := by unfold isNm; rw [decide_eq_true h]; rfl
theorem isNm_not (s : ByteArray) (k : Nat) (h : k < s.size) (hk : letter s[k] = false) : isNm s.data.toList = false := by
  unfold isNm
  have : s.data.toList.all letter = false := by
    rw [List.all_eq_false]; exact ⟨s[k], by rw [show s[k] = s.data.toList[k]'(by simpa using h) from rfl]; exact List.getElem_mem _, by simp [hk]⟩
  rw [this, Bool.and_false]
theorem ret_bool {a b : Bool} (h : a = b) : Ending.returned (.bool a) = .returned (.bool b) := by rw [h]

set_option maxRecDepth 100000 in
theorem implIsName (s : ByteArray) (w : World) (hs : s.size ≤ 1048576) :
    Calls Tryd.prog 29 #[.string s] w fun e w' => e = .returned (.bool (isNm s.data.toList)) ∧ Below w.heap.size w w' := by
  have hb : s.size ≤ 9223372036854775807 := by omega
  have hlen : s.data.toList.length = s.size := by simp
  by_cases h1 : 1 ≤ s.size ∧ s.size ≤ 8
  · obtain ⟨h1, h2⟩ := h1
    go_enter Tryd.func29, Tryd.ntmps29
    go_wp2_with (first | (go_at_call 51; refine (trimLow s _ hb).mono ?_; rintro e w1 ⟨rfl, B1⟩) | go_in)
    go_ret
    exact ⟨ret_bool (by rw [isNm_mid _ (by omega), ← trim_emp]), B1⟩
  · have hn : isNm s.data.toList = false := isNm_short _ (by omega)
    rcases Nat.lt_or_ge s.size 1 with h | h
    · go_enter Tryd.func29, Tryd.ntmps29
      go_wp2
      go_ret
      exact ⟨by first | rfl | rw [hn], Below.refl _ _⟩
    · have h2 : 8 < s.size := by omega
      go_enter Tryd.func29, Tryd.ntmps29
      go_wp2
      go_ret
      exact ⟨by first | rfl | rw [hn], Below.refl _ _⟩

set_option maxHeartbeats 400000 in
theorem specIsName (s : ByteArray) (w : World) (hs : s.size ≤ 1048576) :
    Calls Tryd.prog 28 #[.string s] w fun e w' => e = .returned (.bool (isNm s.data.toList)) ∧ w' = w := by
  have hlen : s.data.toList.length = s.size := by simp
  go_enter Tryd.func28, Tryd.ntmps28
  go_wp2
  go_loop [3] (fun i => ∃ k : Nat, k ≤ s.size ∧ i = .int .i64 k ∧ Hid (∀ j (h : j < s.size), j < k → letter s[j] = true)) (fun i => s.size - (RowKit.intOf i).toNat)
  case atStart => exact ⟨0, Nat.zero_le _, rfl, fun j _ h => absurd h (Nat.not_lt_zero _)⟩
  case round =>
    obtain ⟨k, hk, rfl, hall⟩ := hrel
    by_cases hlt : k < s.size
    · by_cases hc : letter s[k] = true
      · have HS : Hid (∀ j (h : j < s.size), j < k + 1 → letter s[j] = true) := fun j h hj => by
          rcases Nat.lt_or_ge j k with h' | h'
          · exact hall.out j h h'
          · obtain rfl : j = k := by omega
            exact hc
        have hc' := of_decide_eq_true hc
        obtain ⟨c1, c2⟩ := hc'
        clear hall
        have c3 : 97 ≤ (s[k].toNat : Int) := by omega
        have c4 : (s[k].toNat : Int) ≤ 122 := by omega
        clear hc
        go_wp2
        go_round
        case rel => exact ⟨k + 1, by omega, by go_num, HS⟩
        case measure => simp [RowKit.intOf]; omega
      · have hN : isNm s.data.toList = false := isNm_not s k hlt (by simpa using hc)
        have hc' : s[k].toNat < 97 ∨ 97 ≤ s[k].toNat ∧ 122 < s[k].toNat := by
          have : ¬ (97 ≤ s[k].toNat ∧ s[k].toNat ≤ 122) := fun h => hc (decide_eq_true h)
          omega
        have HN := Lib.hid hN
        clear hc hall hN
        rcases hc' with c | ⟨c, c2⟩
        · have c3 : (s[k].toNat : Int) < 97 := by omega
          go_wp2
          go_ret
          exact ⟨ret_bool HN.out.symm, rfl⟩
        · have c3 : 97 ≤ (s[k].toNat : Int) := by omega
          have c4 : 122 < (s[k].toNat : Int) := by omega
          go_wp2
          go_ret
          exact ⟨ret_bool HN.out.symm, rfl⟩
    · obtain rfl : k = s.size := by omega
      have hN : isNm s.data.toList = decide (1 ≤ s.size ∧ s.size ≤ 8) := by
        unfold isNm
        rw [show s.data.toList.all letter = true from by
          rw [List.all_eq_true]; intro x hx
          obtain ⟨j, hj, rfl⟩ := List.getElem_of_mem hx
          exact hall.out j (by simpa using hj) (by simpa using hj), Bool.and_true, hlen]
      clear hall
      rcases Nat.lt_or_ge s.size 1 with h1 | h1
      · rw [decide_eq_false (by omega)] at hN
        have HN := Lib.hid hN
        clear hN
        go_wp2
        go_ret
        exact ⟨ret_bool HN.out.symm, rfl⟩
      · have HN := Lib.hid (show isNm s.data.toList = decide ((s.size : Int) ≤ 8) by rw [hN, decide_eq_decide]; omega)
        clear hN
        go_wp2
        go_ret
        exact ⟨ret_bool HN.out.symm, rfl⟩
end Go.Proofs.YtlpjclglhjcghaaDoor
