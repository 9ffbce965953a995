/- The walk of ReadNumbers, of the reference. No condition. -/
import Derived.Test.YtlpjclglhjcghaaDoorRf
namespace Go.Proofs.YtlpjclglhjcghaaDoor
open Go Go.RowKit Go.Lib

theorem from_any (n : Nat) (a : Int) (ha : a = (n : Int)) (h : n < 4294967296) (w : World) :
    Calls Tryd.prog 65 #[.int .i64 a] w fun e w' => e = .returned (.float .f32 n) ∧ w = w' := by
  subst ha
  have h2 : (n : Int) < 4294967296 := by omega
  clear h
  go_enter Tryd.func65, Tryd.ntmps65
  go_wp2
  go_ret
  exact ⟨by have e : ((n : Int) % 4294967296).toNat = n := by omega
            rw [← e]; rfl, rfl⟩
theorem sfold_app : ∀ (a b : List UInt8) (n : Nat), sfold n (a ++ b) = (sfold n a).bind fun m => sfold m b
  | [], b, n => rfl
  | c :: a, b, n => by
    simp only [List.cons_append, sfold]
    cases sdig c with
    | none => rfl
    | some d => exact sfold_app a b _
theorem sfold_take {s : ByteArray} {j m d : Nat} (hj : j < s.size) (h : sfold 0 (s.data.toList.take j) = some m) (hd : sdig s[j] = some d) : sfold 0 (s.data.toList.take (j + 1)) = some (16 * m + d) := by
  rw [take_snoc s j hj, sfold_snoc, h, Option.bind_some, hd]; rfl
theorem sfold_stop {s : ByteArray} {j : Nat} (hj : j < s.size) (hd : sdig s[j] = none) : sfold 0 s.data.toList = none := by
  rw [← List.take_append_drop (j + 1) s.data.toList, sfold_app, take_snoc s j hj, sfold_snoc, hd]
  cases sfold 0 (s.data.toList.take j) <;> rfl
theorem sfold_bd {s : ByteArray} {j m : Nat} (hj : j ≤ s.size) (h : sfold 0 (s.data.toList.take j) = some m) : m < 16 ^ j :=
  (pad_of_sfold j _ m (by rw [List.length_take]; have : s.data.toList.length = s.size := by simp
                          omega) h).2
theorem sdig_dec {c : UInt8} (h0 : 48 ≤ c.toNat) (h1 : c.toNat ≤ 57) : sdig c = some (c.toNat - 48) := if_pos ⟨h0, h1⟩
theorem sdig_let {c : UInt8} (h0 : 97 ≤ c.toNat) (h1 : c.toNat ≤ 102) : sdig c = some (c.toNat - 87) := by
  unfold sdig; rw [if_neg (by omega), if_pos ⟨h0, h1⟩]
theorem sdig_no {c : UInt8} (h0 : ¬ (48 ≤ c.toNat ∧ c.toNat ≤ 57)) (h1 : ¬ (97 ≤ c.toNat ∧ c.toNat ≤ 102)) : sdig c = none := by
  unfold sdig; rw [if_neg h0, if_neg h1]
/-- Where the reading of a part stands. -/
def Rd (d : ByteArray) (a : Int) (j : Nat) : Prop := ∃ m : Nat, a = (m : Int) ∧ sfold 0 (d.data.toList.take j) = some m ∧ m < 16 ^ j
theorem Rd.start (d : ByteArray) : Rd d 0 0 := ⟨0, rfl, rfl, by decide⟩
theorem Rd.bd {d : ByteArray} {a : Int} {j : Nat} (h : Rd d a j) (hj : j ≤ 7) : 0 ≤ a ∧ a ≤ 268435455 := by
  obtain ⟨m, h1, _, h2⟩ := h
  have : 16 ^ j ≤ 16 ^ 7 := Nat.pow_le_pow_right (by decide) hj
  have : (16 : Nat) ^ 7 = 268435456 := by decide
  omega
theorem Rd.next {d : ByteArray} {a b : Int} {j x : Nat} (h : Rd d a j) (hj : j < d.size) (hd : sdig d[j] = some x) (hb : b = 16 * a + (x : Int)) : Rd d b (j + 1) := by
  obtain ⟨m, h1, h2, _⟩ := h
  have h3 := sfold_take hj h2 hd
  exact ⟨16 * m + x, by omega, h3, sfold_bd hj h3⟩
theorem Rd.done {d : ByteArray} {a : Int} {j : Nat} (h : Rd d a j) (hj : j = 8) (hs : d.size = 8) : ∃ m : Nat, a = (m : Int) ∧ sfold 0 d.data.toList = some m ∧ m < 4294967296 := by
  obtain ⟨m, h1, h2, h3⟩ := h
  subst hj
  have : d.data.toList.length = d.size := by simp
  rw [List.take_of_length_le (by omega)] at h2
  exact ⟨m, h1, h2, h3⟩

set_option maxHeartbeats 4000000 in
set_option maxRecDepth 100000 in
theorem specNRead (s : ByteArray) (w : World) (hs : s.size ≤ 1048576) :
    Calls Tryd.prog 40 #[.string s] w (RetOF (rlG rdH 256 s.data.toList) w) := by
  have HO0 := Lib.hid (OF.made w w.heap.size (Nat.le_refl _))
  have hb0 := below_alloc1 w (.cells #[] 51)
  by_cases hno : s.data.toList = [110, 111, 110, 101]
  · have HR := Lib.hid (rlG_no rdH 256 hno)
    have e1 : (s.toList == [110, 111, 110, 101]) = true := by rw [Lib.toList_data, hno]; rfl
    clear hno
    go_enter Tryd.func40, Tryd.ntmps40
    go_wp2
    go_ret2
    rw [HR.out]
    exact ⟨_, rfl, HO0, hb0⟩
  · have HNO := Lib.hid hno
    have e1 : (s.toList == [110, 111, 110, 101]) = false := by rw [Lib.toList_data]; simpa using hno
    clear hno
    by_cases hlen : (parts s.data.toList).length ≤ 256
    · have HL := Lib.hid hlen
      clear hlen
      go_enter Tryd.func40, Tryd.ntmps40
      have HM0 : Hid (((parts s.data.toList).take 0).mapM rdH = some []) := rfl
      go_wp2_with (first | (go_at_call 63; refine (specCut s _ hs).mono ?_; rintro e w1 ⟨A, n, c, D, rfl, HN, HP, HS, B1⟩; have HNP := Lib.hid (show n = (parts s.data.toList).length by rw [HN.out, ← HP.out, List.length_map]); have hn64 : (n : Int) ≤ 256 := (by have h1 := HNP.out; have h2 := HL.out; omega)) | go_in)
      have HB1 := below_trans hb0 B1
      go_loopw [4, 6] (fun out i wr => ∃ (k : Nat) (L : List Nat), k ≤ n ∧ i = .int .i64 k ∧ (k = 0 → out = .slice (some ⟨w.heap.size, 0, none⟩) 0 0) ∧ (0 < k → Hid (OF wr w1.heap.size out L)) ∧ L.length = k ∧ Hid (((parts s.data.toList).take k).mapM rdH = some L) ∧ Below w.heap.size w wr ∧ Below w1.heap.size w1 wr) (fun _ i _ => n - (RowKit.intOf i).toNat)
      case atStart => exact ⟨0, [], Nat.zero_le _, rfl, fun _ => rfl, fun h => absurd h (Nat.lt_irrefl _), rfl, HM0, HB1, Below.refl _ _⟩
      case round =>
        obtain ⟨k, L, hk, rfl, hO0, hO, hL, HM, hB, hB1⟩ := hrel
        obtain ⟨wo, rfl⟩ : ∃ wo : World, wo = wr := ⟨_, rfl⟩
        by_cases hlt : k < n
        · have hkD : k < D.length := by rw [← HN.out]; exact hlt
          obtain ⟨a, rfl, hab, c1⟩ := HS.out k hkD
          have c2 : wo.cell? (a.add k) = some (.string D[k]) := (hB1.cell (p := a.add k) (by rw [addb]; exact hab)).trans c1
          have HPt := Lib.hid (part_at HP.out hkD)
          obtain ⟨d, hd⟩ : ∃ d, D[k] = d := ⟨_, rfl⟩
          rw [hd] at c2
          have HPd : Hid ((parts s.data.toList)[k]? = some d.data.toList) := by unfold Hid; rw [HPt.out, hd]
          have hdl : d.data.toList.length = d.size := by simp
          have hdz : (d.size : Int) ≤ 1048576 := by
            have h1 := parts_le s.data.toList _ (List.mem_of_getElem? HPd.out)
            have h3 : s.data.toList.length = s.size := by simp
            omega
          clear c1 hd HPt
          by_cases h8 : d.size = 8
          · have H8 := Lib.hid h8
            have R0 := Lib.hid (Rd.start d)
            have e8 : ((d.size : Int) == 8) = true := by rw [h8]; rfl
            have e8' : ((d.size : Int) != 8) = false := by rw [h8]; rfl
            go_wp2
            go_loop [7, 8] (fun vn vk => ∃ (j : Nat) (b : Int), vn = .int .i64 b ∧ vk = .int .i64 j ∧ j ≤ 8 ∧ Hid (Rd d b j)) (fun _ vk => 8 - (RowKit.intOf vk).toNat)
            case atStart => exact ⟨0, 0, rfl, rfl, by omega, R0⟩
            case round =>
              obtain ⟨j, b, rfl, rfl, hj, hR⟩ := hrel
              by_cases hj8 : j < 8
              · obtain ⟨b0, b1⟩ := hR.out.bd (by omega)
                have hjd : j < d.size := by omega
                by_cases hdig : 48 ≤ (d[j]).toNat ∧ (d[j]).toNat ≤ 57
                · obtain ⟨hd0, hd1⟩ := hdig
                  have HRn := Lib.hid (hR.out.next (b := 16 * b + (((d[j]).toNat : Int) - 48)) hjd (sdig_dec hd0 hd1) (by omega))
                  have i1 : 48 ≤ ((d[j]).toNat : Int) := by omega
                  have i2 : ((d[j]).toNat : Int) ≤ 57 := by omega
                  have i3 : decide (97 ≤ ((d[j]).toNat : Int)) = false := decide_eq_false (by omega)
                  clear hd0 hd1
                  go_wp2
                  go_round
                  case rel => exact ⟨j + 1, _, rfl, by go_num, by omega, HRn⟩
                  case measure => simp [RowKit.intOf]; omega
                · by_cases hlet : 97 ≤ (d[j]).toNat ∧ (d[j]).toNat ≤ 102
                  · obtain ⟨hd0, hd1⟩ := hlet
                    have HRn := Lib.hid (hR.out.next (b := 16 * b + (((d[j]).toNat : Int) - 97 + 10)) hjd (sdig_let hd0 hd1) (by omega))
                    have i1 : 97 ≤ ((d[j]).toNat : Int) := by omega
                    have i2 : ((d[j]).toNat : Int) ≤ 102 := by omega
                    have i3 : decide (((d[j]).toNat : Int) ≤ 57) = false := decide_eq_false (by omega)
                    clear hd0 hd1 hdig
                    go_wp2
                    go_round
                    case rel => exact ⟨j + 1, _, rfl, by go_num, by omega, HRn⟩
                    case measure => simp [RowKit.intOf]; omega
                  · have HR := Lib.hid (rlG_none (m := 256) HNO.out HPd.out (rdH_bad (sfold_stop hjd (sdig_no hdig hlet))))
                    have i0 : ((d[j]).toNat : Int) ≤ 255 := by have := (d[j]).toNat_lt; omega
                    have hcs : decide (48 ≤ ((d[j]).toNat : Int)) = false ∨ (48 ≤ ((d[j]).toNat : Int) ∧ decide (((d[j]).toNat : Int) ≤ 57) = false ∧ decide (97 ≤ ((d[j]).toNat : Int)) = false) ∨ (97 ≤ ((d[j]).toNat : Int) ∧ decide (((d[j]).toNat : Int) ≤ 102) = false) := by
                      rcases (show (d[j]).toNat < 48 ∨ (57 < (d[j]).toNat ∧ (d[j]).toNat < 97) ∨ 102 < (d[j]).toNat by omega) with h | h | h
                      · exact .inl (decide_eq_false (by omega))
                      · exact .inr (.inl ⟨by omega, decide_eq_false (by omega), decide_eq_false (by omega)⟩)
                      · exact .inr (.inr ⟨by omega, decide_eq_false (by omega)⟩)
                    clear hdig hlet
                    rcases hcs with i1 | ⟨i1, i2, i3⟩ | ⟨i1, i2⟩
                    · have i3 : decide (97 ≤ ((d[j]).toNat : Int)) = false := decide_eq_false (by have := of_decide_eq_false i1; omega)
                      go_wp2
                      go_ret2
                      rw [HR.out]
                      exact ⟨_, rfl, OF.nil _ _, hB⟩
                    · go_wp2
                      go_ret2
                      rw [HR.out]
                      exact ⟨_, rfl, OF.nil _ _, hB⟩
                    · have i3 : decide (((d[j]).toNat : Int) ≤ 57) = false := decide_eq_false (by omega)
                      go_wp2
                      go_ret2
                      rw [HR.out]
                      exact ⟨_, rfl, OF.nil _ _, hB⟩
              · obtain rfl : j = 8 := by omega
                obtain ⟨m, hm, hsf, hml⟩ := hR.out.done rfl h8
                have HM := HM
                have HMm := Lib.hid hm
                have HML := Lib.hid hml
                have HMX := Lib.hid (show m < 2 ^ 32 from hml)
                have HBV := Lib.hid (bitsV_N m)
                have hbz : b ≤ 4294967295 := by omega
                have hbz0 : 0 ≤ b := by omega
                by_cases hbn : bitN m = m
                · have HEq : Hid ((bitN m : Int) = b) := by unfold Hid; rw [hbn]; exact hm.symm
                  have hr : rdH d.data.toList = some m := by rw [rdH_at (by omega) hsf, if_pos hbn]
                  have HM2 := Lib.hid (mapG_take HM.out HPd.out hr)
                  clear hm hsf hml hbn hr
                  rcases Nat.eq_zero_or_pos k with h0 | h0
                  · subst h0
                    obtain rfl := List.length_eq_zero_iff.1 hL
                    obtain rfl := hO0 rfl
                    clear hO0 hO
                    go_wp2_with (first | (go_at_call 65; refine (from_any m b HMm.out HML.out _).mono ?_; rintro e w2 ⟨rfl, rfl⟩) | (go_at_call 66; refine (specBits_any m HMX.out _).mono ?_; rw [HBV.out, HEq.out]; rintro e w2 ⟨rfl, rfl⟩) | (at_builtin; refine wpList_firstF rfl (.tmp 74) (.tmp 76) rfl _ m _ rfl rfl rfl ?_; intro v' w3 HO3 hb3) | go_in)
                    have HB3 := hb3 _ w hB.size hB
                    have HB4 := hb3 _ w1 hB1.size hB1
                    have HO4 := HO3 w1.heap.size hB1.size
                    go_roundw
                    case rel => exact ⟨1, [m], by omega, by go_num, fun h => by omega, fun _ => HO4, rfl, HM2, HB3, HB4⟩
                    case measure => simp [RowKit.intOf]; omega
                  · have HO := hO h0
                    clear hO0 hO
                    go_wp2_with (first | (go_at_call 65; refine (from_any m b HMm.out HML.out _).mono ?_; rintro e w2 ⟨rfl, rfl⟩) | (go_at_call 66; refine (specBits_any m HMX.out _).mono ?_; rw [HBV.out, HEq.out]; rintro e w2 ⟨rfl, rfl⟩) | (at_builtin; refine wpList_addF rfl (.tmp 74) (.tmp 76) rfl w1.heap.size _ L m _ rfl rfl rfl HO.out hB1.size (by omega) ?_; intro v' w3 HO3 hb3) | go_in)
                    have HB3 := hb3 _ w HB1.size hB
                    have HB4 := hb3 _ w1 (Nat.le_refl _) hB1
                    go_roundw
                    case rel => exact ⟨k + 1, L ++ [m], by omega, by go_num, fun h => by omega, fun _ => HO3, by simp; omega, HM2, HB3, HB4⟩
                    case measure => simp [RowKit.intOf]; omega
                · have HR := Lib.hid (rlG_none (m := 256) HNO.out HPd.out (show rdH d.data.toList = none by rw [rdH_at (by omega) hsf, if_neg hbn]))
                  obtain ⟨bn, hbn2⟩ : ∃ bn : Int, (bitN m : Int) = bn := ⟨_, rfl⟩
                  have HEq := Lib.hid hbn2
                  have ne1 : (bn == b) = false := by rw [beq_eq_false_iff_ne]; omega
                  have ne2 : (bn != b) = true := by rw [bne_iff_ne]; omega
                  clear hm hsf hml hbn hbn2
                  go_wp2_with (first | (go_at_call 65; refine (from_any m b HMm.out HML.out _).mono ?_; rintro e w2 ⟨rfl, rfl⟩) | (go_at_call 66; refine (specBits_any m HMX.out _).mono ?_; rw [HBV.out, HEq.out]; rintro e w2 ⟨rfl, rfl⟩) | go_in)
                  go_ret2
                  rw [HR.out]
                  exact ⟨_, rfl, OF.nil _ _, hB⟩
          · have HR := Lib.hid (rlG_none (m := 256) HNO.out HPd.out (rdH_len (by omega)))
            have e8 : ((d.size : Int) == 8) = false := by rw [beq_eq_false_iff_ne]; omega
            have e8' : ((d.size : Int) != 8) = true := by rw [bne_iff_ne]; omega
            go_wp2
            go_ret2
            rw [HR.out]
            exact ⟨_, rfl, OF.nil _ _, hB⟩
        · obtain rfl : k = n := by omega
          have HR := Lib.hid (rlG_some (m := 256) HNO.out HNP.out (by have h1 := HNP.out; have h2 := HL.out; omega) HM.out)
          have hpos : 0 < k := by
            have := HNP.out
            have := List.length_pos_iff.2 (parts_ne s.data.toList)
            omega
          have HO := hO hpos
          clear hO0 hO
          go_wp2
          go_ret2
          rw [HR.out]
          exact ⟨_, rfl, World.ownsRow.mono HO.out HB1.size, hB⟩
    · have HL : Hid (256 < (parts s.data.toList).length) := Nat.lt_of_not_le hlen
      have HR := Lib.hid (rlG_long (f := rdH) HNO.out HL.out)
      clear hlen
      go_enter Tryd.func40, Tryd.ntmps40
      go_wp2_with (first | (go_at_call 63; refine (specCut s _ hs).mono ?_; rintro e w1 ⟨A, n, c, D, rfl, HN, HP, HS, B1⟩; have hn64 : 256 < (n : Int) := (by have h1 : n = (parts s.data.toList).length := (by rw [HN.out, ← HP.out, List.length_map]); have h2 := HL.out; omega)) | go_in)
      go_ret2
      rw [HR.out]
      exact ⟨_, rfl, OF.nil _ _, below_trans hb0 B1⟩
end Go.Proofs.YtlpjclglhjcghaaDoor
