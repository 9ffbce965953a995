/- The walks of ReadDecimal, of the program and of the reference. No condition. -/
import Derived.Test.YtlpjclglhjcghaaDoorCmn
import Derived.Test.YtlpjclglhjcghaaDoorDec
import Derived.Test.YtlpjclglhjcghaaDoorRdp
import Derived.Test.YtlpjclglhjcghaaDoorSfi
import Derived.Test.YtlpjclglhjcghaaDoorPi
import Derived.Lib.AppendIntMem
import Derived.Lib.Hide
import Derived.Lib.SmallJoins
import Derived.Laws.IdiomStrings
namespace Go.Proofs.YtlpjclglhjcghaaDoor
open Go.RowKit Go.Lib

theorem itoaSpec (n : Int) (w : World) (h0 : -9223372036854775808 ≤ n) (h1 : n ≤ 9223372036854775807) :
    Calls Tryd.prog 48 #[.int .i64 n] w fun e w' => e = .returned (.string ⟨(Lib.itoa n).toArray⟩) ∧ Below w.heap.size w w' := by
  by_cases hneg : n < 0
  · obtain ⟨u, rfl⟩ : ∃ u : Nat, n = -(u : Int) := ⟨n.natAbs, by omega⟩
    rw [Lib.itoa_neg u (by omega)]
    exact dec_neg u w (by omega) (by omega)
  · obtain ⟨u, rfl⟩ : ∃ u : Nat, n = u := ⟨n.toNat, by omega⟩
    rw [Lib.itoa_nonneg]
    exact dec_pos u w (by omega)

/-- A named variable holds behind what a call leaves below the old end what it held. -/
theorem var?_below {P : Program} {W W' : World} {n : String} {cs : Array Value} (h : W.var? P n = some cs) (hb : Below W.heap.size W W') : W'.var? P n = some cs := by
  unfold World.var? at h ⊢
  cases hg : P.globalNamed n with
  | none => simp [hg] at h
  | some g =>
    simp only [hg, Option.bind_some] at h ⊢
    have hlt : g < W.heap.size := by
      rcases Nat.lt_or_ge g W.heap.size with h' | h'
      · exact h'
      · simp [Array.getElem?_eq_none h'] at h
    rw [hb.block g hlt]; exact h
/-- What the numbers' texts need of the world: the table of powers, and the two errors. -/
structure Errs (w : World) : Prop where
  pow : Lib.TabIs Tryd.prog w "internal/strconv.uint64pow10" .u64 Lib.pow10Tab
  syn : ∃ tp p, w.var? Tryd.prog "strconv.ErrSyntax" = some #[.iface tp p]
  rng : ∃ tp p, w.var? Tryd.prog "strconv.ErrRange" = some #[.iface tp p]
theorem Errs.on {w w' : World} (h : Errs w) (hb : Below w.heap.size w w') : Errs w' :=
  ⟨Lib.tabBelow_of_tabIs h.pow _ hb, by obtain ⟨a, b, c⟩ := h.syn; exact ⟨a, b, var?_below c hb⟩, by obtain ⟨a, b, c⟩ := h.rng; exact ⟨a, b, var?_below c hb⟩⟩

/-- What ReadDecimal returns. -/
def resI : Option Int → Value
  | some n => .tuple #[.int .i64 n, .bool true]
  | none => .tuple #[.int .i64 0, .bool false]
theorem okVal_no {n : Int} (h : ¬ (-1000000000000000 ≤ n ∧ n ≤ 1000000000000000)) : okVal n = false := decide_eq_false h
theorem okVal_yes {n : Int} (h : -1000000000000000 ≤ n ∧ n ≤ 1000000000000000) : okVal n = true := decide_eq_true h
theorem resI_some {o : Option Int} {v : Int} (h : o = some v) : resI o = .tuple #[.int .i64 v, .bool true] := by rw [h]; rfl
theorem resI_none {o : Option Int} (h : o = none) : resI o = .tuple #[.int .i64 0, .bool false] := by rw [h]; rfl

theorem parseOk (s : ByteArray) (hs : s.size ≤ 281474976710656) (v : Int) (h : Lib.parseIntB 64 s.data.toList = .ok v) (w : World) :
    Calls Tryd.prog 62 #[.string s, .int .i64 10, .int .i64 64] w fun e w' => e = .returned (.tuple #[.int .i64 v, .nilIface]) ∧ Hid (Below w.heap.size w w') := by
  refine (Tryd.strconv_ParseInt_10_at64_ok s (by omega) v h w).mono fun e w' h => ⟨h.1, ?_⟩
  obtain ⟨_, rfl | ⟨t, rfl⟩⟩ := h
  · exact Below.refl _ _
  · exact Go.Joins.below_bytesWorld _ _ _ _ (Nat.le_refl _)

set_option maxRecDepth 100000 in
theorem implReadDecimal (s : ByteArray) (w : World) (hs : s.size ≤ 281474976710656) (hE : Errs w) :
    Calls Tryd.prog 37 #[.string s] w fun e w' => e = .returned (resI (rdD s.data.toList)) ∧ Below w.heap.size w w' := by
  have HE := Lib.hid hE
  clear hE
  cases hp : Lib.parseIntB 64 s.data.toList
  rotate_left
  · have HN := Lib.hid (resI_none (rdD_bad (l := s.data.toList) (fun v h => by rw [hp] at h; cases h)))
    obtain ⟨tp, p, hv⟩ := HE.out.syn
    have HV := Lib.hid hv
    clear hv
    go_enter Tryd.func37, Tryd.ntmps37
    go_wp2_with (first | (go_at_call 62; refine (Tryd.strconv_ParseInt_10_at64_syntax_var s hs hp tp p _ HV.out).mono ?_; rintro e w1 ⟨N, rfl, _, _, B1⟩) | go_in)
    go_ret2
    exact ⟨by rw [HN.out]; rfl, B1⟩
  · have HN := Lib.hid (resI_none (rdD_bad (l := s.data.toList) (fun v h => by rw [hp] at h; cases h)))
    obtain ⟨tp, p, hv⟩ := HE.out.rng
    have HV := Lib.hid hv
    clear hv
    go_enter Tryd.func37, Tryd.ntmps37
    go_wp2_with (first | (go_at_call 62; refine (Tryd.strconv_ParseInt_10_at64_range_var s hs hp tp p _ HV.out).mono ?_; rintro e w1 ⟨N, rfl, _, _, B1⟩) | go_in)
    go_ret2
    exact ⟨by rw [HN.out]; rfl, B1⟩
  · rename_i v
    obtain ⟨b0, b1⟩ := Lib.parseIntB_bounds hp
    have hpw : ((2 ^ (64 - 1) : Nat) : Int) = 9223372036854775808 := by decide
    rw [hpw] at b0 b1
    clear hpw
    have b2 : v ≤ 9223372036854775807 := by omega
    have HR := Lib.hid (rdD_ok hp)
    by_cases hin : -1000000000000000 ≤ v ∧ v ≤ 1000000000000000
    · have hok := okVal_yes hin
      obtain ⟨i1, i2⟩ := hin
      by_cases he : Lib.itoa v = s.data.toList
      · have HN := Lib.hid (resI_some (HR.out.trans (if_pos ⟨hok, he⟩)))
        clear hok
        have hbeq : (Lib.itoa v == s.toList) = true := by rw [Lib.toList_data]; simpa using he
        clear he
        go_enter Tryd.func37, Tryd.ntmps37
        go_wp2_with (first | (go_at_call 62; refine (parseOk s hs v hp _).mono ?_; rintro e w1 ⟨rfl, B1⟩) | (go_at_call 49; refine (Tryd.strconv_FormatInt_10 v b0 b2 _ (HE.out.on B1.out).pow).mono ?_; rintro e w2 ⟨rfl, k, os, rfl⟩) | go_in)
        go_ret2
        exact ⟨by rw [HN.out]; rfl, B1.out.trans (Lib.below_grow _ _ B1.out.size _ _)⟩
      · have HN := Lib.hid (resI_none (HR.out.trans (if_neg (fun h => he h.2))))
        clear hok
        have hbeq : (Lib.itoa v == s.toList) = false := by rw [Lib.toList_data]; simpa using he
        clear he
        go_enter Tryd.func37, Tryd.ntmps37
        go_wp2_with (first | (go_at_call 62; refine (parseOk s hs v hp _).mono ?_; rintro e w1 ⟨rfl, B1⟩) | (go_at_call 49; refine (Tryd.strconv_FormatInt_10 v b0 b2 _ (HE.out.on B1.out).pow).mono ?_; rintro e w2 ⟨rfl, k, os, rfl⟩) | go_in)
        go_ret2
        exact ⟨by rw [HN.out]; rfl, B1.out.trans (Lib.below_grow _ _ B1.out.size _ _)⟩
    · have hok := okVal_no hin
      have HN := Lib.hid (resI_none (HR.out.trans (if_neg (fun h => by rw [hok] at h; cases h.1))))
      clear hok
      rcases Int.lt_or_le v (-1000000000000000) with h | h
      · go_enter Tryd.func37, Tryd.ntmps37
        go_wp2_with (first | (go_at_call 62; refine (parseOk s hs v hp _).mono ?_; rintro e w1 ⟨rfl, B1⟩) | go_in)
        go_ret2
        exact ⟨by rw [HN.out]; rfl, B1.out⟩
      · have h2 : 1000000000000000 < v := by omega
        go_enter Tryd.func37, Tryd.ntmps37
        go_wp2_with (first | (go_at_call 62; refine (parseOk s hs v hp _).mono ?_; rintro e w1 ⟨rfl, B1⟩) | go_in)
        go_ret2
        exact ⟨by rw [HN.out]; rfl, B1.out⟩

theorem take_snoc (s : ByteArray) (k : Nat) (h : k < s.size) : s.data.toList.take (k + 1) = s.data.toList.take k ++ [s[k]] := by
  rw [List.take_succ_eq_append_getElem (by simpa using h)]; rfl
theorem num_take_lt (l : List UInt8) (k : Nat) (hk : k ≤ 17) : (num (l.take k) : Int) < 100000000000000000 := by
  have h := num_lt (l.take k)
  have h2 : (l.take k).length ≤ 17 := by rw [List.length_take]; omega
  have h3 : (10 : Nat) ^ (l.take k).length ≤ 10 ^ 17 := Nat.pow_le_pow_right (by decide) h2
  have h4 : (10 : Nat) ^ 17 = 100000000000000000 := by decide
  omega

set_option maxHeartbeats 1000000 in
set_option maxRecDepth 100000 in
theorem specValue (s : ByteArray) (w : World) :
    Calls Tryd.prog 61 #[.string s] w fun e w' => e = .returned (resI (rdD s.data.toList)) ∧ Below w.heap.size w w' := by
  have hlen : s.data.toList.length = s.size := by simp
  rcases Nat.lt_or_ge s.size 1 with hc | hc
  · have HN := Lib.hid (resI_none (rdD_len (l := s.data.toList) (by omega)))
    go_enter Tryd.func61, Tryd.ntmps61
    go_wp2
    go_ret2
    exact ⟨by rw [HN.out]; rfl, Below.refl _ _⟩
  rcases Nat.lt_or_ge 17 s.size with hc2 | hc2
  · have HN := Lib.hid (resI_none (rdD_len (l := s.data.toList) (by omega)))
    go_enter Tryd.func61, Tryd.ntmps61
    go_wp2
    go_ret2
    exact ⟨by rw [HN.out]; rfl, Below.refl _ _⟩
  go_enter Tryd.func61, Tryd.ntmps61
  go_wp2
  go_loop [4, 5] (fun n i => ∃ k N : Nat, k ≤ s.size ∧ i = .int .i64 k ∧ n = .int .i64 (N : Int) ∧ Hid (num (s.data.toList.take k) = N)) (fun _ i => s.size - (RowKit.intOf i).toNat)
  case atStart => exact ⟨0, 0, Nat.zero_le _, rfl, rfl, rfl⟩
  case round =>
    obtain ⟨k, N, hk, rfl, rfl, hN⟩ := hrel
    by_cases hlt : k < s.size
    · have hb : (N : Int) < 100000000000000000 := by rw [← hN.out]; exact num_take_lt s.data.toList k (by omega)
      by_cases hd : 48 ≤ s[k].toNat ∧ s[k].toNat ≤ 57
      · have HS : Hid (num (s.data.toList.take (k + 1)) = 10 * N + (s[k].toNat - 48)) := by
          unfold Hid; rw [take_snoc s k hlt, num_snoc, if_pos hd, hN.out]
        have hb2 : 10 * (N : Int) + ((s[k].toNat : Int) - 48) < 100000000000000000 := by
          have h1 := num_take_lt s.data.toList (k + 1) (by omega)
          rw [HS.out] at h1; omega
        obtain ⟨d1, d2⟩ := hd
        have d3 : 48 ≤ (s[k].toNat : Int) := by omega
        have d4 : (s[k].toNat : Int) ≤ 57 := by omega
        go_wp2
        go_round
        case rel => exact ⟨k + 1, 10 * N + (s[k].toNat - 48), by omega, by go_num, by first | rfl | (congr 1; omega), HS⟩
        case measure => simp [RowKit.intOf]; omega
      · have HS : Hid (num (s.data.toList.take (k + 1)) = N) := by
          unfold Hid; rw [take_snoc s k hlt, num_snoc, if_neg hd, hN.out]
        have hd' : s[k].toNat < 48 ∨ 48 ≤ s[k].toNat ∧ 57 < s[k].toNat := by omega
        clear hd
        rcases hd' with d | ⟨d, d2⟩
        · have d3 : decide (48 ≤ (s[k].toNat : Int)) = false := decide_eq_false (by omega)
          clear d
          go_wp2
          go_round
          case rel => exact ⟨k + 1, N, by omega, by go_num, rfl, HS⟩
          case measure => simp [RowKit.intOf]; omega
        · have d3 : 48 ≤ (s[k].toNat : Int) := by omega
          have d4 : decide ((s[k].toNat : Int) ≤ 57) = false := decide_eq_false (by omega)
          clear d d2
          go_wp2
          go_round
          case rel => exact ⟨k + 1, N, by omega, by go_num, rfl, HS⟩
          case measure => simp [RowKit.intOf]; omega
    · have hb : (N : Int) < 100000000000000000 := by rw [← hN.out]; exact num_take_lt s.data.toList k (by omega)
      have hN := hN.out
      rw [show s.data.toList.take k = s.data.toList from List.take_of_length_le (by omega)] at hN
      have hh : s.data.toList.head? = some (s[0]'hc) := by
        rw [List.head?_eq_getElem?, List.getElem?_eq_getElem (by omega)]; rfl
      by_cases h45 : s[0]'hc = 45
      · have HV : Hid (rdD s.data.toList = if okVal (-(N : Int)) = true ∧ Lib.itoa (-(N : Int)) = s.data.toList then some (-(N : Int)) else none) := by unfold Hid rdD; rw [show snum s.data.toList = -(N : Int) from by unfold snum; rw [hh, if_pos (by rw [h45]), hN]]
        have e1 : (((s[0]'hc).toNat : Int) == 45) = true := by rw [h45]; rfl
        clear h45 hh hN
        obtain ⟨v, hv⟩ : ∃ v, -(N : Int) = v := ⟨_, rfl⟩
        have hv0 : v ≤ 9223372036854775807 := by omega
        have hv1 : -9223372036854775808 ≤ v := by omega
        have hv2 : v ≤ 0 := by omega
        rw [hv] at HV
        clear hb
        rcases Int.lt_or_le v (-1000000000000000) with hi | hi
        · have hi' : decide (-1000000000000000 ≤ v) = false := decide_eq_false (by omega)
          have HN := Lib.hid (resI_none (HV.out.trans (if_neg (fun h => by have := of_decide_eq_true h.1; omega))))
          go_wp2
          go_ret2
          exact ⟨by rw [HN.out]; rfl, Below.refl _ _⟩
        · have hok : okVal (v) = true := okVal_yes (by omega)
          have hj1 : -1000000000000000 ≤ v := by omega
          have hj2 : v ≤ 1000000000000000 := by omega
          have hx0 : -9223372036854775808 ≤ (v) := by omega
          have hx1 : (v) ≤ 9223372036854775807 := by omega
          by_cases he : Lib.itoa (v) = s.data.toList
          · have HN := Lib.hid (resI_some (HV.out.trans (if_pos ⟨hok, he⟩)))
            have hbeq : (Lib.itoa (v) == s.toList) = true := by rw [Lib.toList_data]; simpa using he
            clear hok he
            go_wp2_with (first | (go_at_call 48; refine (itoaSpec (v) _ hx0 hx1).mono ?_; rintro e w1 ⟨rfl, B1⟩) | go_in)
            go_ret2
            exact ⟨by rw [HN.out]; rfl, B1⟩
          · have HN := Lib.hid (resI_none (HV.out.trans (if_neg (fun h => he h.2))))
            have hbeq : (Lib.itoa (v) == s.toList) = false := by rw [Lib.toList_data]; simpa using he
            clear hok he
            go_wp2_with (first | (go_at_call 48; refine (itoaSpec (v) _ hx0 hx1).mono ?_; rintro e w1 ⟨rfl, B1⟩) | go_in)
            go_ret2
            exact ⟨by rw [HN.out]; rfl, B1⟩
      · have HV : Hid (rdD s.data.toList = if okVal ((N : Int)) = true ∧ Lib.itoa ((N : Int)) = s.data.toList then some ((N : Int)) else none) := by unfold Hid rdD; rw [show snum s.data.toList = (N : Int) from by unfold snum; rw [hh, if_neg (by rintro h; exact h45 (Option.some.inj h)), hN]]
        have e1 : (((s[0]'hc).toNat : Int) == 45) = false := by rw [beq_eq_false_iff_ne]; intro h; exact h45 (UInt8.toNat.inj (Int.ofNat.inj h))
        clear h45 hh hN hb
        rcases Int.lt_or_le 1000000000000000 (N : Int) with hi | hi
        · have hi' : decide ((N : Int) ≤ 1000000000000000) = false := decide_eq_false (by omega)
          have hj : -1000000000000000 ≤ (N : Int) := by omega
          have HN := Lib.hid (resI_none (HV.out.trans (if_neg (fun h => by have := of_decide_eq_true h.1; omega))))
          go_wp2
          go_ret2
          exact ⟨by rw [HN.out]; rfl, Below.refl _ _⟩
        · have hok : okVal ((N : Int)) = true := okVal_yes (by omega)
          have hj : -1000000000000000 ≤ (N : Int) := by omega
          have hx0 : -9223372036854775808 ≤ ((N : Int)) := by omega
          have hx1 : ((N : Int)) ≤ 9223372036854775807 := by omega
          by_cases he : Lib.itoa ((N : Int)) = s.data.toList
          · have HN := Lib.hid (resI_some (HV.out.trans (if_pos ⟨hok, he⟩)))
            have hbeq : (Lib.itoa ((N : Int)) == s.toList) = true := by rw [Lib.toList_data]; simpa using he
            clear hok he
            go_wp2_with (first | (go_at_call 48; refine (itoaSpec ((N : Int)) _ hx0 hx1).mono ?_; rintro e w1 ⟨rfl, B1⟩) | go_in)
            go_ret2
            exact ⟨by rw [HN.out]; rfl, B1⟩
          · have HN := Lib.hid (resI_none (HV.out.trans (if_neg (fun h => he h.2))))
            have hbeq : (Lib.itoa ((N : Int)) == s.toList) = false := by rw [Lib.toList_data]; simpa using he
            clear hok he
            go_wp2_with (first | (go_at_call 48; refine (itoaSpec ((N : Int)) _ hx0 hx1).mono ?_; rintro e w1 ⟨rfl, B1⟩) | go_in)
            go_ret2
            exact ⟨by rw [HN.out]; rfl, B1⟩
end Go.Proofs.YtlpjclglhjcghaaDoor
