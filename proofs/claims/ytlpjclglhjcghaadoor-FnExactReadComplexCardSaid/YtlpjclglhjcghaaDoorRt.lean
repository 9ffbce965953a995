/- The walk of ReadComplex, of the reference. No condition. -/
import Derived.Test.YtlpjclglhjcghaaDoorRc
import Derived.Test.YtlpjclglhjcghaaDoorDg
namespace Go.Proofs.YtlpjclglhjcghaaDoor
open Go Go.RowKit Go.Lib

set_option maxHeartbeats 4000000 in
set_option maxRecDepth 100000 in
theorem specCRead (s : ByteArray) (w : World) (hs : s.size ≤ 1048576) :
    Calls Tryd.prog 44 #[.string s] w (RetOC (rlG rdC 256 s.data.toList) w) := by
  have HO0 := Lib.hid (OC.made w w.heap.size (Nat.le_refl _))
  have hb0 := below_alloc1 w (.cells #[] 56)
  by_cases hno : s.data.toList = [110, 111, 110, 101]
  · have HR := Lib.hid (rlG_no rdC 256 hno)
    have e1 : (s.toList == [110, 111, 110, 101]) = true := by rw [Lib.toList_data, hno]; rfl
    clear hno
    go_enter Tryd.func44, Tryd.ntmps44
    go_wp2
    go_ret2
    rw [HR.out]
    exact ⟨_, rfl, HO0, hb0⟩
  · have HNO := Lib.hid hno
    have e1 : (s.toList == [110, 111, 110, 101]) = false := by rw [Lib.toList_data]; simpa using hno
    clear hno
    by_cases hlen : (parts s.data.toList).length ≤ 256
    · have HL := Lib.hid hlen
      clear hlen
      go_enter Tryd.func44, Tryd.ntmps44
      have HM0 : Hid (((parts s.data.toList).take 0).mapM rdC = some []) := rfl
      go_wp2_with (first | (go_at_call 63; refine (specCut s _ hs).mono ?_; rintro e w1 ⟨A, n, c, D, rfl, HN, HP, HS, B1⟩; have HNP := Lib.hid (show n = (parts s.data.toList).length by rw [HN.out, ← HP.out, List.length_map]); have hn64 : (n : Int) ≤ 256 := (by have h1 := HNP.out; have h2 := HL.out; omega)) | go_in)
      have HB1 := below_trans hb0 B1
      go_loopw [4, 6] (fun out i wr => ∃ (k : Nat) (L : List (Nat × Nat)), k ≤ n ∧ i = .int .i64 k ∧ (k = 0 → out = .slice (some ⟨w.heap.size, 0, none⟩) 0 0) ∧ (0 < k → Hid (OC wr w1.heap.size out L)) ∧ L.length = k ∧ Hid (((parts s.data.toList).take k).mapM rdC = some L) ∧ Below w.heap.size w wr ∧ Below w1.heap.size w1 wr) (fun _ i _ => n - (RowKit.intOf i).toNat)
      case atStart => exact ⟨0, [], Nat.zero_le _, rfl, fun _ => rfl, fun h => absurd h (Nat.lt_irrefl _), rfl, HM0, HB1, Below.refl _ _⟩
      case round =>
        obtain ⟨k, L, hk, rfl, hO0, hO, hL, HM, hB, hB1⟩ := hrel
        by_cases hlt : k < n
        · have hkD : k < D.length := by rw [← HN.out]; exact hlt
          obtain ⟨a, rfl, hab, c1⟩ := HS.out k hkD
          have c2 : wr.cell? (a.add k) = some (.string D[k]) := (hB1.cell (p := a.add k) (by rw [addb]; exact hab)).trans c1
          have HPt := Lib.hid (part_at HP.out hkD)
          obtain ⟨d, hd⟩ : ∃ d, D[k] = d := ⟨_, rfl⟩
          rw [hd] at c2
          have HPd : Hid ((parts s.data.toList)[k]? = some d.data.toList) := by unfold Hid; rw [HPt.out, hd]
          have hdl : d.data.toList.length = d.size := by simp
          have hdz : (d.size : Int) ≤ 1048576 := by
            have h1 := parts_le s.data.toList _ (List.mem_of_getElem? HPd.out)
            have h3 : s.data.toList.length = s.size := by simp
            omega
          clear c1 hd HPt
          by_cases h8 : d.size = 16
          · have h16 : d.data.toList.length = 16 := by omega
            have e8 : ((d.size : Int) == 16) = true := by rw [h8]; rfl
            have e8' : ((d.size : Int) != 16) = false := by rw [h8]; rfl
            have s1 : Hid ((d.extract 0 8).size = 8) := by unfold Hid; rw [ByteArray.size_extract]; omega
            have s2 : Hid ((d.extract 8 d.size).size = 8) := by unfold Hid; rw [ByteArray.size_extract]; omega
            have g8 : (8 : Int) ≤ (d.size : Int) := by omega
            have g8n : 8 ≤ d.size := by omega
            have D1 : ∀ w, Calls Tryd.prog 69 #[.string (d.extract 0 8)] w (RetD (rdH (d.data.toList.take 8)) w) := fun w => by rw [← ext_take]; exact specDigits _ s1.out w
            have D2 : ∀ w, Calls Tryd.prog 69 #[.string (d.extract 8 d.size)] w (RetD (rdH (d.data.toList.drop 8)) w) := fun w => by rw [← ext_drop]; exact specDigits _ s2.out w
            have HH := Lib.hid h16
            clear hdl h8 h16
            obtain ⟨o1, ho1⟩ : ∃ o, rdH (d.data.toList.take 8) = o := ⟨_, rfl⟩
            obtain ⟨o2, ho2⟩ : ∃ o, rdH (d.data.toList.drop 8) = o := ⟨_, rfl⟩
            rw [ho1] at D1
            rw [ho2] at D2
            have H1 := Lib.hid ho1
            have H2 := Lib.hid ho2
            clear ho1 ho2
            cases o1 with
            | none =>
              have HR := Lib.hid (rlG_none (m := 256) HNO.out HPd.out (rdC_one H1.out))
              go_wp2_with fail
              refine (D1 _).mono ?_
              rintro e w2 ⟨x, rfl, hx, rfl⟩
              clear hx
              go_wp2_with fail
              refine (D2 _).mono ?_
              rintro e w3 ⟨y, rfl, hy, rfl⟩
              clear hy
              go_wp2
              go_ret2
              rw [HR.out]
              exact ⟨_, rfl, OC.nil _ _, hB⟩
            | some x0 =>
              cases o2 with
              | none =>
                have HR := Lib.hid (rlG_none (m := 256) HNO.out HPd.out (rdC_two H2.out))
                go_wp2_with fail
                refine (D1 _).mono ?_
                rintro e w2 ⟨x, rfl, hx, rfl⟩
                clear hx
                go_wp2_with fail
                refine (D2 _).mono ?_
                rintro e w3 ⟨y, rfl, hy, rfl⟩
                clear hy
                go_wp2
                go_ret2
                rw [HR.out]
                exact ⟨_, rfl, OC.nil _ _, hB⟩
              | some y0 =>
                have HM2 := Lib.hid (mapG_take HM.out HPd.out (rdC_at HH.out H1.out H2.out))
                rcases Nat.eq_zero_or_pos k with h0 | h0
                · subst h0
                  obtain rfl := List.length_eq_zero_iff.1 hL
                  obtain rfl := hO0 rfl
                  rw [show a.add 0 = a from by unfold Addr.add; simp] at c2
                  clear hO0 hO
                  go_wp2_with fail
                  refine (D1 _).mono ?_
                  rintro e w2 ⟨x, rfl, hx, rfl⟩
                  obtain rfl := hx _ rfl
                  clear hx
                  go_wp2_with fail
                  refine (D2 _).mono ?_
                  rintro e w3 ⟨y, rfl, hy, rfl⟩
                  obtain rfl := hy _ rfl
                  clear hy
                  go_wp2_with (first | (at_builtin; refine wpList_firstC rfl (.tmp 56) (.tmp 60) rfl _ (x, y) _ rfl rfl rfl ?_; intro v' w3 HO3 hb3) | go_in)
                  have HB3 := hb3 _ w hB.size hB
                  have HB4 := hb3 _ w1 hB1.size hB1
                  have HO4 := HO3 w1.heap.size hB1.size
                  go_roundw
                  case rel => exact ⟨1, [(x, y)], by omega, by go_num, fun h => by omega, fun _ => HO4, rfl, HM2, HB3, HB4⟩
                  case measure => simp [RowKit.intOf]; omega
                · have HO := hO h0
                  clear hO0 hO
                  go_wp2_with fail
                  refine (D1 _).mono ?_
                  rintro e w2 ⟨x, rfl, hx, rfl⟩
                  obtain rfl := hx _ rfl
                  clear hx
                  go_wp2_with fail
                  refine (D2 _).mono ?_
                  rintro e w3 ⟨y, rfl, hy, rfl⟩
                  obtain rfl := hy _ rfl
                  clear hy
                  go_wp2_with (first | (at_builtin; refine wpList_addC rfl (.tmp 56) (.tmp 60) rfl w1.heap.size _ L (x, y) _ rfl rfl rfl HO.out hB1.size (by omega) ?_; intro v' w3 HO3 hb3) | go_in)
                  have HB3 := hb3 _ w HB1.size hB
                  have HB4 := hb3 _ w1 (Nat.le_refl _) hB1
                  go_roundw
                  case rel => exact ⟨k + 1, L ++ [(x, y)], by omega, by go_num, fun h => by omega, fun _ => HO3, by simp; omega, HM2, HB3, HB4⟩
                  case measure => simp [RowKit.intOf]; omega
          · have HR := Lib.hid (rlG_none (m := 256) HNO.out HPd.out (rdC_len (by omega)))
            have e8 : ((d.size : Int) == 16) = false := by rw [beq_eq_false_iff_ne]; omega
            have e8' : ((d.size : Int) != 16) = true := by rw [bne_iff_ne]; omega
            go_wp2
            go_ret2
            rw [HR.out]
            exact ⟨_, rfl, OC.nil _ _, hB⟩
        · obtain rfl : k = n := by omega
          have HR := Lib.hid (rlG_some (m := 256) HNO.out HNP.out (by have h1 := HNP.out; have h2 := HL.out; omega) HM.out)
          have hpos : 0 < k := by
            have := HNP.out
            have := List.length_pos_iff.2 (parts_ne s.data.toList)
            omega
          have HO := hO hpos
          clear hO0 hO
          go_wp2
          go_ret2
          rw [HR.out]
          exact ⟨_, rfl, World.ownsRow.mono HO.out HB1.size, hB⟩
    · have HL : Hid (256 < (parts s.data.toList).length) := Nat.lt_of_not_le hlen
      have HR := Lib.hid (rlG_long (f := rdC) HNO.out HL.out)
      clear hlen
      go_enter Tryd.func44, Tryd.ntmps44
      go_wp2_with (first | (go_at_call 63; refine (specCut s _ hs).mono ?_; rintro e w1 ⟨A, n, c, D, rfl, HN, HP, HS, B1⟩; have hn64 : 256 < (n : Int) := (by have h1 : n = (parts s.data.toList).length := (by rw [HN.out, ← HP.out, List.length_map]); have h2 := HL.out; omega)) | go_in)
      go_ret2
      rw [HR.out]
      exact ⟨_, rfl, OC.nil _ _, below_trans hb0 B1⟩
end Go.Proofs.YtlpjclglhjcghaaDoor
