/- Eight digits read, by the reference. No condition. -/
import Derived.Test.YtlpjclglhjcghaaDoorRs
namespace Go.Proofs.YtlpjclglhjcghaaDoor
open Go Go.RowKit Go.Lib

/-- What the reference's reading of eight digits gives. -/
def RetD (o : Option Nat) (w : World) (e : Ending) (w' : World) : Prop := ∃ x, e = .returned (.tuple #[.float .f32 x, .bool o.isSome]) ∧ (∀ n, o = some n → x = n) ∧ w' = w
set_option maxHeartbeats 1000000 in
set_option maxRecDepth 100000 in
theorem specDigits (d : ByteArray) (h8 : d.size = 8) (w : World) :
    Calls Tryd.prog 69 #[.string d] w (RetD (rdH d.data.toList) w) := by
  have R0 := Lib.hid (Rd.start d)
  have hdl : d.data.toList.length = d.size := by simp
  go_enter Tryd.func69, Tryd.ntmps69
  go_wp2
  go_loop [4, 5] (fun vn vk => ∃ (j : Nat) (b : Int), vn = .int .i64 b ∧ vk = .int .i64 j ∧ j ≤ d.size ∧ Hid (Rd d b j)) (fun _ vk => d.size - (RowKit.intOf vk).toNat)
  case atStart => exact ⟨0, 0, rfl, rfl, by omega, R0⟩
  case round =>
    obtain ⟨j, b, rfl, rfl, hj, hR⟩ := hrel
    by_cases hjd : j < d.size
    · obtain ⟨b0, b1⟩ := hR.out.bd (by omega)
      by_cases hdig : 48 ≤ (d[j]).toNat ∧ (d[j]).toNat ≤ 57
      · obtain ⟨hd0, hd1⟩ := hdig
        have HRn := Lib.hid (hR.out.next (b := 16 * b + (((d[j]).toNat : Int) - 48)) hjd (sdig_dec hd0 hd1) (by omega))
        have i1 : 48 ≤ ((d[j]).toNat : Int) := by omega
        have i2 : ((d[j]).toNat : Int) ≤ 57 := by omega
        have i3 : decide (97 ≤ ((d[j]).toNat : Int)) = false := decide_eq_false (by omega)
        clear hd0 hd1
        go_wp2
        go_round
        case rel => exact ⟨j + 1, _, rfl, by go_num, by omega, HRn⟩
        case measure => simp [RowKit.intOf]; omega
      · by_cases hlet : 97 ≤ (d[j]).toNat ∧ (d[j]).toNat ≤ 102
        · obtain ⟨hd0, hd1⟩ := hlet
          have HRn := Lib.hid (hR.out.next (b := 16 * b + (((d[j]).toNat : Int) - 97 + 10)) hjd (sdig_let hd0 hd1) (by omega))
          have i1 : 97 ≤ ((d[j]).toNat : Int) := by omega
          have i2 : ((d[j]).toNat : Int) ≤ 102 := by omega
          have i3 : decide (((d[j]).toNat : Int) ≤ 57) = false := decide_eq_false (by omega)
          clear hd0 hd1 hdig
          go_wp2
          go_round
          case rel => exact ⟨j + 1, _, rfl, by go_num, by omega, HRn⟩
          case measure => simp [RowKit.intOf]; omega
        · have HR := Lib.hid (rdH_bad (sfold_stop hjd (sdig_no hdig hlet)))
          have i0 : ((d[j]).toNat : Int) ≤ 255 := by have := (d[j]).toNat_lt; omega
          have hcs : decide (48 ≤ ((d[j]).toNat : Int)) = false ∨ (48 ≤ ((d[j]).toNat : Int) ∧ decide (((d[j]).toNat : Int) ≤ 57) = false ∧ decide (97 ≤ ((d[j]).toNat : Int)) = false) ∨ (97 ≤ ((d[j]).toNat : Int) ∧ decide (((d[j]).toNat : Int) ≤ 102) = false) := by
            rcases (show (d[j]).toNat < 48 ∨ (57 < (d[j]).toNat ∧ (d[j]).toNat < 97) ∨ 102 < (d[j]).toNat by omega) with h | h | h
            · exact .inl (decide_eq_false (by omega))
            · exact .inr (.inl ⟨by omega, decide_eq_false (by omega), decide_eq_false (by omega)⟩)
            · exact .inr (.inr ⟨by omega, decide_eq_false (by omega)⟩)
          clear hdig hlet
          rcases hcs with i1 | ⟨i1, i2, i3⟩ | ⟨i1, i2⟩
          · have i3 : decide (97 ≤ ((d[j]).toNat : Int)) = false := decide_eq_false (by have := of_decide_eq_false i1; omega)
            go_wp2
            go_ret2
            rw [HR.out]
            exact ⟨_, rfl, (fun n hn => by cases hn), rfl⟩
          · go_wp2
            go_ret2
            rw [HR.out]
            exact ⟨_, rfl, (fun n hn => by cases hn), rfl⟩
          · have i3 : decide (((d[j]).toNat : Int) ≤ 57) = false := decide_eq_false (by omega)
            go_wp2
            go_ret2
            rw [HR.out]
            exact ⟨_, rfl, (fun n hn => by cases hn), rfl⟩
    · obtain rfl : j = d.size := by omega
      obtain ⟨m, hm, hsf, hml⟩ := hR.out.done h8 h8
      have HMm := Lib.hid hm
      have HML := Lib.hid hml
      have HMX := Lib.hid (show m < 2 ^ 32 from hml)
      have HBV := Lib.hid (bitsV_N m)
      have hbz : b ≤ 4294967295 := by omega
      have hbz0 : 0 ≤ b := by omega
      by_cases hbn : bitN m = m
      · have HEq : Hid ((bitN m : Int) = b) := by unfold Hid; rw [hbn]; exact hm.symm
        have HR : Hid (rdH d.data.toList = some m) := by unfold Hid; rw [rdH_at (by omega) hsf, if_pos hbn]
        clear hm hsf hml hbn
        go_wp2_with (first | (go_at_call 65; refine (from_any m b HMm.out HML.out _).mono ?_; rintro e w2 ⟨rfl, rfl⟩) | (go_at_call 66; refine (specBits_any m HMX.out _).mono ?_; rw [HBV.out, HEq.out]; rintro e w2 ⟨rfl, rfl⟩) | go_in)
        go_ret2
        rw [HR.out]
        exact ⟨m, rfl, (fun n hn => Option.some.inj hn), rfl⟩
      · have HR : Hid (rdH d.data.toList = none) := by unfold Hid; rw [rdH_at (by omega) hsf, if_neg hbn]
        obtain ⟨bn, hbn2⟩ : ∃ bn : Int, (bitN m : Int) = bn := ⟨_, rfl⟩
        have HEq := Lib.hid hbn2
        have ne1 : (bn == b) = false := by rw [beq_eq_false_iff_ne]; omega
        have ne2 : (bn != b) = true := by rw [bne_iff_ne]; omega
        clear hm hsf hml hbn hbn2
        go_wp2_with (first | (go_at_call 65; refine (from_any m b HMm.out HML.out _).mono ?_; rintro e w2 ⟨rfl, rfl⟩) | (go_at_call 66; refine (specBits_any m HMX.out _).mono ?_; rw [HBV.out, HEq.out]; rintro e w2 ⟨rfl, rfl⟩) | go_in)
        go_ret2
        rw [HR.out]
        exact ⟨_, rfl, (fun n hn => by cases hn), rfl⟩
end Go.Proofs.YtlpjclglhjcghaaDoor
