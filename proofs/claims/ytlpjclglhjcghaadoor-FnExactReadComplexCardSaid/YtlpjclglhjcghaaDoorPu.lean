/- strconv.ParseUint at base 16 and 32 bits: what it gives at any text. No condition. -/
import Derived.Test.YtlpjclglhjcghaaDoorRh
import Derived.Test.YtlpjclglhjcghaaDoorSpu
import Derived.Test.YtlpjclglhjcghaaDoorRl
import Derived.Lib.Walk
import Derived.Lib.ConvBytes
import Derived.Lib.AtoiAllMem
import Derived.Laws.Strings3
import Derived.Laws.Closers25
import Derived.Laws.Closers25b
import Derived.BigCall
import Derived.BigGuard
import Derived.Lib.IfaceEq
namespace Go.Proofs.YtlpjclglhjcghaaDoor
open Go Go.RowKit Go.Lib

/-- What the inner reading gives. -/
def puV : PR → Value
  | .ok n => .tuple #[.int .u64 (n : Int), .nilIface]
  | .syn => .tuple #[.int .u64 0, .iface 119 (.int .i64 2)]
  | .rng => .tuple #[.int .u64 4294967295, .iface 119 (.int .i64 1)]
theorem lower_any (c v : Int) (hv : bits .or .u8 c 32 = v) (w : World) :
    Calls Tryd.prog 109 #[.int .u8 c] w fun e w' => e = .returned (.int .u8 v) ∧ w' = w := by
  subst hv
  go_enter Tryd.func109, Tryd.ntmps109
  go_wp2
  go_ret
  exact ⟨rfl, rfl⟩
theorem pu_cons_syn {n : Nat} {c : UInt8} {l : List UInt8} (h : dig16 c = none) : pu16 n (c :: l) = .syn := by unfold pu16; rw [h]
theorem pu_cons_rng {n : Nat} {c : UInt8} {l : List UInt8} {d : Nat} (h : dig16 c = some d) (hr : 4294967295 < 16 * n + d) : pu16 n (c :: l) = .rng := by unfold pu16; rw [h]; exact if_pos hr
theorem pu_cons_ok {n : Nat} {c : UInt8} {l : List UInt8} {d : Nat} (h : dig16 c = some d) (hr : ¬ 4294967295 < 16 * n + d) : pu16 n (c :: l) = pu16 (16 * n + d) l := by
  conv => lhs; unfold pu16
  rw [h]; exact if_neg hr
theorem dig_dec {c : UInt8} (h0 : 48 ≤ c.toNat) (h1 : c.toNat ≤ 57) : dig16 c = some (c.toNat - 48) := if_pos ⟨h0, h1⟩
theorem dig_let {c : UInt8} {v : Int} (h : ¬ (48 ≤ c.toNat ∧ c.toNat ≤ 57)) (hv : bits .or .u8 (c.toNat : Int) 32 = v) (h0 : 97 ≤ v) (h1 : v ≤ 102) : dig16 c = some (v - 87).toNat := by
  unfold dig16 lowI; rw [if_neg h, hv, if_pos ⟨h0, h1⟩]
theorem dig_no {c : UInt8} {v : Int} (h : ¬ (48 ≤ c.toNat ∧ c.toNat ≤ 57)) (hv : bits .or .u8 (c.toNat : Int) 32 = v) (hn : ¬ (97 ≤ v ∧ v ≤ 102)) : dig16 c = none := by
  unfold dig16 lowI; rw [if_neg h, hv, if_neg hn]

set_option maxHeartbeats 32000000 in
set_option maxRecDepth 100000 in
theorem innerPu (t : ByteArray) (hne : t.size ≠ 0) (hmax : t.size ≤ 9223372036854775806) (w : World) :
    Calls Tryd.prog 87 #[.string t, .int .i64 16, .int .i64 32] w fun e w' => e = .returned (puV (pu16 0 t.data.toList)) ∧ w' = Lib.bytesWorld w 5 t := by
  have hemp : t.toList.isEmpty = false := by
    rw [← decide_eq_emptyBytes]
    exact decide_eq_false (fun h => hne (by rw [h]; rfl))
  have hcv := Lib.run_convert_string_bytes (P := Tryd.prog) w 9 84 5 t (u := .string) Tryd.underlying9 Tryd.underlying84 Tryd.underlying5
  have hB : ∀ j, j < t.size → (Lib.bytesWorld w 5 t).cell? ⟨w.heap.size, j, none⟩ = some (.int .u8 (t.data.toList.getD j 0).toNat) := fun j hj => Lib.bytesWorld_cell w 5 t j hj
  obtain ⟨W1, hW1⟩ : ∃ W1, W1 = Lib.bytesWorld w 5 t := ⟨_, rfl⟩
  rw [← hW1] at hcv hB ⊢
  clear hW1
  obtain ⟨bs, hL⟩ : ∃ bs, bs = t.data.toList := ⟨_, rfl⟩
  have hLn : bs.length = t.size := by rw [hL, Lib.size_eq]
  rw [← hL] at hB ⊢
  clear hL
  have hmv : IntKind.u64.wrap (IntKind.u64.wrap 4294967296 - 1) = 4294967295 := by
    rw [IntKind.wrap_u64, IntKind.wrap_u64]
    decide
  go_enter Tryd.func87, Tryd.ntmps87
  go_wp2
  go_loop [12, 13, 101] (fun vu vn vi => ∃ (k acc : Nat) (a : Int), vu = .bool false ∧ vn = .int .u64 a ∧ vi = .int .i64 k ∧ k ≤ t.size ∧ Hid (a = (acc : Int) ∧ acc < 4294967296 ∧ pu16 0 bs = pu16 acc (bs.drop k)))
    (fun _ _ vi => t.size - (RowKit.intOf vi).toNat)
  case atStart => exact ⟨0, 0, 0, rfl, rfl, rfl, by omega, rfl, by omega, rfl⟩
  case round =>
    obtain ⟨k, acc, a, rfl, rfl, rfl, hk, hh⟩ := hrel
    obtain ⟨ha, hacc, hdec⟩ := hh.out
    clear hh
    have a0 : 0 ≤ a := by omega
    have a1 : a ≤ 4294967295 := by omega
    by_cases hkn : k < t.size
    · have hc := hB k hkn
      have hdrop : bs.drop k = bs[k]'(by omega) :: bs.drop (k + 1) := List.drop_eq_getElem_cons (by omega)
      have hget : bs.getD k 0 = bs[k]'(by omega) := by simp [List.getD, List.getElem?_eq_getElem (show k < bs.length by omega)]
      rw [hdrop] at hdec
      rw [hget] at hc
      generalize bs[k]'(by omega) = c at hc hdec
      have hc256 : c.toNat < 256 := c.toNat_lt
      clear hB hdrop hget
      by_cases hdig : 48 ≤ c.toNat ∧ c.toNat ≤ 57
      · obtain ⟨hd0, hd1⟩ := hdig
        have hD := dig_dec hd0 hd1
        by_cases hov : 4294967295 < 16 * acc + (c.toNat - 48)
        · rw [pu_cons_rng hD hov] at hdec
          have HD := Lib.hid hdec
          have iov : 4294967296 ≤ a * 16 + ((c.toNat : Int) - 48) := by omega
          clear hacc hov ha hD hdec
          go_wp2
          go_ret2
          exact ⟨by rw [HD.out]; rfl, rfl⟩
        · have HN : Hid (a * 16 + ((c.toNat : Int) - 48) = ((16 * acc + (c.toNat - 48) : Nat) : Int) ∧ 16 * acc + (c.toNat - 48) < 4294967296 ∧ pu16 0 bs = pu16 (16 * acc + (c.toNat - 48)) (bs.drop (k + 1))) := Lib.hid ⟨by omega, by omega, hdec.trans (pu_cons_ok hD hov)⟩
          have iov : a * 16 + ((c.toNat : Int) - 48) ≤ 4294967295 := by omega
          clear hacc hov hdec ha hD
          go_wp2
          refine ⟨⟨k + 1, 16 * acc + (c.toNat - 48), a * 16 + ((c.toNat : Int) - 48), rfl, (by first | rfl | (congr 1; omega)), (by first | rfl | (congr 1; omega)), by omega, HN⟩, by simp [RowKit.intOf]; omega⟩
      · obtain ⟨v, hv⟩ : ∃ v, bits .or .u8 (c.toNat : Int) 32 = v := ⟨_, rfl⟩
        have hv0 := bits_lo_u8 .or (c.toNat : Int) 32
        have hv1 := bits_hi_u8 .or (c.toNat : Int) 32
        rw [hv] at hv0 hv1
        have HV := Lib.hid hv
        obtain ⟨cc, hcc⟩ : ∃ cc : Int, (c.toNat : Int) = cc := ⟨_, rfl⟩
        by_cases h95 : cc = 95
        · have hv2 : v = 127 := by rw [← hv, hcc, h95]; decide
          rw [pu_cons_syn (dig_no hdig hv (by omega))] at hdec
          have HD := Lib.hid hdec
          rw [hcc, h95] at hc
          clear hacc ha hdec hdig hv HV hv0 hv1 hcc h95 hc256 hv2
          go_wp2_with (go_at_call 109; refine (lower_any 95 127 (by decide) _).mono ?_; rintro e w' ⟨rfl, rfl⟩)
          go_ret2
          exact ⟨by rw [HD.out]; rfl, rfl⟩
        have t95 : (cc == 95) = false := by simpa using h95
        clear h95
        by_cases hlet : 97 ≤ v ∧ v ≤ 102
        · obtain ⟨l0, l1⟩ := hlet
          have hD := dig_let hdig hv l0 l1
          by_cases hov : 4294967295 < 16 * acc + (v - 87).toNat
          · rw [pu_cons_rng hD hov] at hdec
            have HD := Lib.hid hdec
            have iov : 4294967296 ≤ a * 16 + (v - 97 + 10) := by omega
            have l2 : v ≤ 122 := by omega
            have hcs : decide (48 ≤ cc) = false ∨ (48 ≤ cc ∧ decide (cc ≤ 57) = false) := by rcases (show cc < 48 ∨ 57 < cc by omega) with h | h; exact .inl (decide_eq_false (by omega)); exact .inr ⟨by omega, decide_eq_false (by omega)⟩
            clear hacc hov ha hD hdec hdig hv
            rw [hcc] at HV hc
            clear hcc hc256
            rcases hcs with hc1 | ⟨hc0, hc1⟩
            all_goals
              go_wp2_with (go_at_call 109; refine (lower_any cc v HV.out _).mono ?_; rintro e w' ⟨rfl, rfl⟩)
              go_ret2
              exact ⟨by rw [HD.out]; rfl, rfl⟩
          · have HN : Hid (a * 16 + (v - 97 + 10) = ((16 * acc + (v - 87).toNat : Nat) : Int) ∧ 16 * acc + (v - 87).toNat < 4294967296 ∧ pu16 0 bs = pu16 (16 * acc + (v - 87).toNat) (bs.drop (k + 1))) := Lib.hid ⟨by omega, by omega, hdec.trans (pu_cons_ok hD hov)⟩
            have iov : a * 16 + (v - 97 + 10) ≤ 4294967295 := by omega
            have l2 : v ≤ 122 := by omega
            have hcs : decide (48 ≤ cc) = false ∨ (48 ≤ cc ∧ decide (cc ≤ 57) = false) := by rcases (show cc < 48 ∨ 57 < cc by omega) with h | h; exact .inl (decide_eq_false (by omega)); exact .inr ⟨by omega, decide_eq_false (by omega)⟩
            clear hacc hov ha hD hdec hdig hv
            rw [hcc] at HV hc
            clear hcc hc256
            rcases hcs with hc1 | ⟨hc0, hc1⟩
            all_goals
              go_wp2_with (go_at_call 109; refine (lower_any cc v HV.out _).mono ?_; rintro e w' ⟨rfl, rfl⟩)
              refine ⟨⟨k + 1, 16 * acc + (v - 87).toNat, a * 16 + (v - 97 + 10), rfl, (by first | rfl | (congr 1; omega)), (by first | rfl | (congr 1; omega)), by omega, HN⟩, by simp [RowKit.intOf]; omega⟩
        · rw [pu_cons_syn (dig_no hdig hv hlet)] at hdec
          have HD := Lib.hid hdec
          have hcs : decide (48 ≤ cc) = false ∨ (48 ≤ cc ∧ decide (cc ≤ 57) = false) := by rcases (show cc < 48 ∨ 57 < cc by omega) with h | h; exact .inl (decide_eq_false (by omega)); exact .inr ⟨by omega, decide_eq_false (by omega)⟩
          have hls : decide (97 ≤ v) = false ∨ (97 ≤ v ∧ decide (v ≤ 122) = false) ∨ (103 ≤ v ∧ v ≤ 122) := by rcases (show v < 97 ∨ 122 < v ∨ (103 ≤ v ∧ v ≤ 122) by omega) with h | h | h; exact .inl (decide_eq_false (by omega)); exact .inr (.inl ⟨by omega, decide_eq_false (by omega)⟩); exact .inr (.inr h)
          clear hacc ha hdec hdig hv hlet
          rw [hcc] at HV hc
          clear hcc hc256
          rcases hcs with hc1 | ⟨hc0, hc1⟩
          all_goals
            rcases hls with hl1 | ⟨hl1, hl2⟩ | ⟨hl1, hl2⟩
            all_goals
              go_wp2_with (go_at_call 109; refine (lower_any cc v HV.out _).mono ?_; rintro e w' ⟨rfl, rfl⟩)
              go_ret2
              exact ⟨by rw [HD.out]; rfl, rfl⟩
    · have hkk : k = t.size := by omega
      subst hkk
      have hF : pu16 acc (bs.drop t.size) = .ok acc := by rw [List.drop_eq_nil_of_le (by omega)]; rfl
      rw [hF] at hdec
      have HD := Lib.hid hdec
      have HA := Lib.hid ha
      clear hacc hF hdec ha
      go_wp2
      go_ret2
      exact ⟨by rw [HD.out, HA.out]; rfl, rfl⟩
set_option maxRecDepth 100000 in
theorem innerPu_empty (t : ByteArray) (h0 : t.size = 0) (w : World) :
    Calls Tryd.prog 87 #[.string t, .int .i64 16, .int .i64 32] w fun e w' => e = .returned (puV .syn) ∧ w' = w := by
  have hemp : t.toList.isEmpty = true := by
    rw [← decide_eq_emptyBytes]
    exact decide_eq_true (ByteArray.ext (Array.eq_empty_of_size_eq_zero h0))
  go_enter Tryd.func87, Tryd.ntmps87
  go_wp2
  go_ret2
  exact ⟨rfl, rfl⟩
end Go.Proofs.YtlpjclglhjcghaaDoor
