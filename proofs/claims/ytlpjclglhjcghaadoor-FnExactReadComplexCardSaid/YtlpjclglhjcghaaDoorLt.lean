/- The walks of ListText, of the program and of the reference. No condition. -/
import Derived.Test.YtlpjclglhjcghaaDoorTx
namespace Go.Proofs.YtlpjclglhjcghaaDoor
open Go Go.RowKit Go.Lib

/-- The text of a list's element. -/
def dV (V : Nat → Int) (i : Nat) : List UInt8 := Lib.itoa (V i)
/-- Every element is small enough. -/
def allOk (V : Nat → Int) (n : Nat) : Prop := ∀ i, i < n → okVal (V i) = true
theorem dV_len {V : Nat → Int} {n : Nat} (h : allOk V n) : ∀ i, i < n → (dV V i).length ≤ 17 := fun i hi => (itoa_len17 _ (h i hi)).2
theorem itoaSpecB (n : Int) (w : World) (h : I64 n) :
    Calls Tryd.prog 48 #[.int .i64 n] w fun e w' => ∃ b : ByteArray, e = .returned (.string b) ∧ Hid (b.data.toList = Lib.itoa n) ∧ (b.size : Int) ≤ 21 ∧ Below w.heap.size w w' := by
  refine (itoaSpec n w h.1 h.2).mono fun e w' h' => ⟨_, h'.1, rfl, ?_, h'.2⟩
  have := Lib.itoa_length_le n h.1 h.2
  simp [ByteArray.size]; omega
theorem implDec (n : Int) (w : World) (h : I64 n) (hT : Lib.TabIs Tryd.prog w "internal/strconv.uint64pow10" .u64 Lib.pow10Tab) :
    Calls Tryd.prog 27 #[.int .i64 n] w fun e w' => e = .returned (.string ⟨(Lib.itoa n).toArray⟩) ∧ Below w.heap.size w w' := by
  obtain ⟨h0, h1⟩ := h
  have HT := Lib.hid hT
  clear hT
  go_enter Tryd.func27, Tryd.ntmps27
  go_wp2_with (first | (go_at_call 49; refine (Tryd.strconv_FormatInt_10 n h0 h1 _ HT.out).mono ?_; rintro e w2 ⟨rfl, k, os, rfl⟩) | go_in)
  go_ret
  exact ⟨rfl, Lib.below_grow _ _ (Nat.le_refl _) _ _⟩

set_option maxHeartbeats 1000000 in
set_option maxRecDepth 100000 in
theorem specText (A : Option Addr) (len cap : Nat) (V : Nat → Int) (w : World) (hl : len ≤ 64) (hg : IArg w A len V) (hok : allOk V len) :
    Calls Tryd.prog 53 #[.slice A len cap] w fun e w' => ∃ s : ByteArray, e = .returned (.string s) ∧ s.data.toList = listTxt (dV V) len ∧ Below w.heap.size w w' := by
  have hlz : (len : Int) ≤ 64 := by omega
  have HG := Lib.hid hg
  have HK := Lib.hid hok
  clear hg hok
  by_cases h0 : len = 0
  · subst h0
    go_enter Tryd.func53, Tryd.ntmps53
    go_wp2
    go_ret
    exact ⟨_, rfl, rfl, Below.refl _ _⟩
  · have h1 : 1 ≤ len := by omega
    have hT : listTxt (dV V) len = jt (dV V) len := by unfold listTxt; rw [if_neg h0]
    have HT := Lib.hid hT
    clear hT
    have e0 : ((len : Int) == 0) = false := by simp; omega
    obtain ⟨a, rfl, hab, c1, i1⟩ := HG.out 0 (by omega)
    rw [show a.add 0 = a from by unfold Addr.add; simp] at c1
    obtain ⟨x, hx⟩ : ∃ x, x = V 0 := ⟨_, rfl⟩
    rw [← hx] at c1 i1
    have HX := Lib.hid hx
    have HI := Lib.hid i1
    have hpos : (0 : Int) < (len : Int) := by omega
    clear hx i1 h0
    go_enter Tryd.func53, Tryd.ntmps53
    go_wp2_with (first | (go_at_call 48; refine (itoaSpecB x _ HI.out).mono ?_; rintro e w1 ⟨b, rfl, hb, hbs, B1⟩) | go_in)
    have H0 : Hid (b.data.toList = jt (dV V) 1) := by unfold Hid; rw [hb.out, jt_one, HX.out]; rfl
    go_loopw [3, 4] (fun out i wr => ∃ (k : Nat) (s : ByteArray), 1 ≤ k ∧ k ≤ len ∧ i = .int .i64 k ∧ out = .string s ∧ Hid (s.data.toList = jt (dV V) k) ∧ (s.size : Int) ≤ 22 * k ∧ Below w.heap.size w wr) (fun _ i _ => len - (RowKit.intOf i).toNat)
    case atStart => exact ⟨1, b, Nat.le_refl _, h1, rfl, rfl, H0, by omega, B1⟩
    case round =>
      obtain ⟨k, s, hk1, hk, rfl, rfl, hs, hsz, hB⟩ := hrel
      by_cases hlt : k < len
      · obtain ⟨a', ha', _, c2, i2⟩ := HG.out k hlt
        obtain rfl := Option.some.inj ha'
        obtain ⟨y, hy⟩ : ∃ y, y = V k := ⟨_, rfl⟩
        rw [← hy] at c2 i2
        have HY := Lib.hid hy
        have HI2 := Lib.hid i2
        have c3 : wr.cell? (a.add k) = some (.int .i64 y) := (hB.cell (p := a.add k) (by rw [addb]; exact hab)).trans c2
        clear hy i2 c2 ha'
        go_wp2_with (first | (go_at_call 48; refine (itoaSpecB y _ HI2.out).mono ?_; rintro e w2 ⟨b2, rfl, hb2, hbs2, B2⟩) | go_in)
        have H2 : Hid ((s ++ (⟨#[44]⟩ ++ b2)).data.toList = jt (dV V) (k + 1)) := by
          unfold Hid; rw [Go.Joins.data_append, Go.Joins.data_append, hs.out, hb2.out, jt_succ _ _ hk1, HY.out]; rfl
        have hsz2 : ((s ++ (⟨#[44]⟩ ++ b2)).size : Int) ≤ 22 * ((k + 1 : Nat) : Int) := by
          simp [ByteArray.size_append]
          have : (⟨#[44]⟩ : ByteArray).size = 1 := rfl
          omega
        go_roundw
        case rel => exact ⟨k + 1, _, by omega, by omega, by go_num, rfl, H2, hsz2, hB.trans (B2.mono hB.size)⟩
        case measure => simp [RowKit.intOf]; omega
      · obtain rfl : k = len := by omega
        go_wp2
        go_ret
        exact ⟨s, rfl, by rw [HT.out]; exact hs.out, hB⟩

set_option maxHeartbeats 1000000 in
set_option maxRecDepth 100000 in
theorem specListOk (A : Option Addr) (len cap : Nat) (V : Nat → Int) (w : World) (hl : len ≤ 1048576) (hg : IArg w A len V) (hok : allOk V len) :
    Calls Tryd.prog 52 #[.slice A len cap] w fun e w' => e = .returned (.bool (decide ((len : Int) ≤ 64))) ∧ w' = w := by
  have hlz : (len : Int) ≤ 1048576 := by omega
  have HG := Lib.hid hg
  have HK := Lib.hid hok
  clear hg hok
  go_enter Tryd.func52, Tryd.ntmps52
  go_wp2
  go_loop [3] (fun i => ∃ k : Nat, k ≤ len ∧ i = .int .i64 k) (fun i => len - (RowKit.intOf i).toNat)
  case atStart => exact ⟨0, Nat.zero_le _, rfl⟩
  case round =>
    obtain ⟨k, hk, rfl⟩ := hrel
    by_cases hlt : k < len
    · obtain ⟨a, rfl, _, c1, _⟩ := HG.out k hlt
      have hv := of_decide_eq_true (HK.out k hlt)
      obtain ⟨x, hx⟩ : ∃ x, x = V k := ⟨_, rfl⟩
      rw [← hx] at c1 hv
      clear hx
      obtain ⟨v1, v2⟩ := hv
      go_wp2
      go_round
      case rel => exact ⟨k + 1, by omega, by go_num⟩
      case measure => simp [RowKit.intOf]; omega
    · go_wp2
      go_ret
      exact ⟨rfl, rfl⟩
set_option maxHeartbeats 1000000 in
set_option maxRecDepth 100000 in
theorem specListNo (A : Option Addr) (len cap : Nat) (V : Nat → Int) (w : World) (hl : len ≤ 1048576) (hg : IArg w A len V) (j : Nat) (hj : j < len) (hno : okVal (V j) = false) :
    Calls Tryd.prog 52 #[.slice A len cap] w fun e w' => e = .returned (.bool false) ∧ w' = w := by
  have hlz : (len : Int) ≤ 1048576 := by omega
  have HG := Lib.hid hg
  have HN := Lib.hid hno
  clear hg hno
  go_enter Tryd.func52, Tryd.ntmps52
  go_wp2
  go_loop [3] (fun i => ∃ k : Nat, k ≤ j ∧ i = .int .i64 k) (fun i => len - (RowKit.intOf i).toNat)
  case atStart => exact ⟨0, Nat.zero_le _, rfl⟩
  case round =>
    obtain ⟨k, hk, rfl⟩ := hrel
    have hlt : k < len := by omega
    obtain ⟨a, rfl, _, c1, _⟩ := HG.out k hlt
    obtain ⟨x, hx⟩ : ∃ x, x = V k := ⟨_, rfl⟩
    rw [← hx] at c1
    rcases Int.lt_or_le x (-1000000000000000) with v1 | v1
    · clear hx
      go_wp2
      go_ret
      exact ⟨rfl, rfl⟩
    · rcases Int.lt_or_le 1000000000000000 x with v2 | v2
      · have v3 : decide (x ≤ 1000000000000000) = false := decide_eq_false (by omega)
        clear hx v2
        go_wp2
        go_ret
        exact ⟨rfl, rfl⟩
      · have hkj : k < j := by
          rcases Nat.lt_or_ge k j with h | h
          · exact h
          · exfalso
            obtain rfl : k = j := by omega
            have := HN.out
            rw [← hx, okVal_yes ⟨v1, v2⟩] at this; cases this
        clear hx
        go_wp2
        go_round
        case rel => exact ⟨k + 1, by omega, by go_num⟩
        case measure => simp [RowKit.intOf]; omega

theorem SOwn.on {w w' : World} {B : Nat} {v : Value} {l : List ByteArray} (h : SOwn w B v l) (hb : Below w.heap.size w w') : SOwn w' B v l := by
  refine ⟨h.1, ?_⟩
  rcases h.2 with ⟨e1, e2⟩ | ⟨g, cap, cur, e1, e2, e3, e4⟩
  · exact .inl ⟨e1, e2⟩
  · refine .inr ⟨g, cap, cur, e1, e2, ?_, e4⟩
    rw [hb.block g (Array.getElem?_eq_some_iff.1 e3).1]; exact e3
/-- The elements' texts, as strings. -/
def sV (V : Nat → Int) (k : Nat) : List ByteArray := (List.range k).map fun i => ⟨(Lib.itoa (V i)).toArray⟩
theorem sV_len (V : Nat → Int) (k : Nat) : (sV V k).length = k := by simp [sV]
theorem sV_succ (V : Nat → Int) (k : Nat) : sV V (k + 1) = sV V k ++ [⟨(Lib.itoa (V k)).toArray⟩] := by simp [sV, List.range_succ]
theorem sV_data (V : Nat → Int) (k : Nat) : Lib.join ((sV V k).map (·.data.toList)) [44] = jt (dV V) k := by
  unfold sV jt dV; rw [List.map_map]; rfl
set_option maxHeartbeats 1000000 in
set_option maxRecDepth 100000 in
theorem implJoin (A : Option Addr) (len cap : Nat) (V : Nat → Int) (w : World) (hl : len ≤ 64) (hg : IArg w A len V) (hok : allOk V len) (hT : Lib.TabIs Tryd.prog w "internal/strconv.uint64pow10" .u64 Lib.pow10Tab) :
    Calls Tryd.prog 55 #[.slice A len cap, .func (.func 27) #[] #[]] w fun e w' => e = .returned (.string ⟨(listTxt (dV V) len).toArray⟩) ∧ Below w.heap.size w w' := by
  have hlz : (len : Int) ≤ 64 := by omega
  have HG := Lib.hid hg
  have HK := Lib.hid hok
  have HTb := Lib.hid (Lib.tabBelow_of_tabIs hT)
  clear hg hok hT
  by_cases h0 : len = 0
  · subst h0
    go_enter Tryd.func55, Tryd.ntmps55
    go_wp2
    go_ret
    exact ⟨rfl, Below.refl _ _⟩
  · have h1 : 1 ≤ len := by omega
    have hT : listTxt (dV V) len = jt (dV V) len := by unfold listTxt; rw [if_neg h0]
    have HT := Lib.hid hT
    clear hT
    have e0 : ((len : Int) == 0) = false := by simp; omega
    have H0 : Hid (SOwn w w.heap.size (.slice none 0 0) (sV V 0)) := SOwn.nil _ _
    clear h0
    go_enter Tryd.func55, Tryd.ntmps55
    go_wp2
    go_loopw [5, 13] (fun ws i wr => ∃ k : Nat, k ≤ len ∧ i = .int .i64 k ∧ Hid (SOwn wr w.heap.size ws (sV V k)) ∧ Below w.heap.size w wr) (fun _ i _ => len - (RowKit.intOf i).toNat)
    case atStart => exact ⟨0, Nat.zero_le _, rfl, H0, Below.refl _ _⟩
    case round =>
      obtain ⟨k, hk, rfl, hO, hB⟩ := hrel
      by_cases hlt : k < len
      · obtain ⟨a, rfl, hab, c2, i2⟩ := HG.out k hlt
        obtain ⟨y, hy⟩ : ∃ y, V k = y := ⟨_, rfl⟩
        rw [hy] at c2 i2
        have HY := Lib.hid hy
        have HI2 := Lib.hid i2
        have c3 : wr.cell? (a.add k) = some (.int .i64 y) := (hB.cell (p := a.add k) (by rw [addb]; exact hab)).trans c2
        clear hy i2 c2
        go_wp2_with (first | (go_at_call 27; refine (implDec y _ HI2.out (HTb.out _ hB)).mono ?_; rintro e w2 ⟨rfl, B2⟩; have HO2 := Lib.hid (SOwn.on hO.out B2)) | (at_builtin; refine wpList_sadd rfl (.tmp 17) (.tmp 21) rfl w.heap.size _ (sV V k) _ rfl rfl HO2.out (Nat.le_trans hB.size B2.size) (by rw [sV_len]; omega) ?_; intro v' w3 HO3 hb3) | go_in)
        have HO4 : Hid (SOwn w3 w.heap.size v' (sV V (k + 1))) := by unfold Hid; rw [sV_succ, HY.out]; exact HO3.out
        have HB3 := hb3 _ w (Nat.le_refl _) (hB.trans (B2.mono hB.size))
        go_roundw
        case rel => exact ⟨k + 1, by omega, by go_num, HO4, HB3⟩
        case measure => simp [RowKit.intOf]; omega
      · obtain rfl : k = len := by omega
        obtain ⟨g, c, hv, hg1, hg2⟩ := World.ownsRow.form hO.out (by rw [sV_len]; omega)
        rw [sV_len] at hv
        subst hv
        go_wp2_with (first | (go_at_call 79; refine (joinW _ w.heap.size g c _ (sV V _) (sV_len V _).symm (by rw [sV_len]; omega) (by rw [sV_data]; have := jt_len (dV V) 17 _ h1 (dV_len HK.out); omega) hO.out h1).mono ?_; rintro e w2 ⟨rfl, B2⟩) | go_in)
        go_ret
        exact ⟨by rw [HT.out, ← sV_data]; rfl, hB.trans (B2.mono hB.size)⟩

set_option maxRecDepth 100000 in
theorem implListText (A : Option Addr) (len cap : Nat) (V : Nat → Int) (w : World) (hl : len ≤ 64) (hg : IArg w A len V) (hok : allOk V len) (hT : Lib.TabIs Tryd.prog w "internal/strconv.uint64pow10" .u64 Lib.pow10Tab) :
    Calls Tryd.prog 32 #[.slice A len cap] w fun e w' => e = .returned (.tuple #[.string ⟨(listTxt (dV V) len).toArray⟩, .bool true]) ∧ Below w.heap.size w w' := by
  have hlz : (len : Int) ≤ 64 := by omega
  have HG := Lib.hid hg
  have HK := Lib.hid hok
  have HT := Lib.hid hT
  clear hg hok hT
  go_enter Tryd.func32, Tryd.ntmps32
  go_wp2
  go_loop [11] (fun i => ∃ k : Nat, k ≤ len ∧ i = .int .i64 k) (fun i => len - (RowKit.intOf i).toNat)
  case atStart => exact ⟨0, Nat.zero_le _, rfl⟩
  case round =>
    obtain ⟨k, hk, rfl⟩ := hrel
    by_cases hlt : k < len
    · obtain ⟨a, rfl, _, c1, _⟩ := HG.out k hlt
      have hv := of_decide_eq_true (HK.out k hlt)
      obtain ⟨x, hx⟩ : ∃ x, x = V k := ⟨_, rfl⟩
      rw [← hx] at c1 hv
      clear hx
      obtain ⟨v1, v2⟩ := hv
      go_wp2
      go_round
      case rel => exact ⟨k + 1, by omega, by go_num⟩
      case measure => simp [RowKit.intOf]; omega
    · go_wp2_with (first | (go_at_call 55; refine (implJoin A len cap V _ hl HG.out HK.out HT.out).mono ?_; rintro e w2 ⟨rfl, B2⟩) | go_in)
      go_ret2
      exact ⟨rfl, B2⟩
theorem implListTextLong (A : Option Addr) (len cap : Nat) (w : World) (hl : 64 < len) :
    Calls Tryd.prog 32 #[.slice A len cap] w fun e w' => e = .returned (.tuple #[.string ⟨#[]⟩, .bool false]) ∧ Below w.heap.size w w' := by
  have hlz : 64 < (len : Int) := by omega
  go_enter Tryd.func32, Tryd.ntmps32
  go_wp2
  go_ret2
  exact ⟨rfl, Below.refl _ _⟩
set_option maxHeartbeats 1000000 in
set_option maxRecDepth 100000 in
theorem implListTextNo (A : Option Addr) (len cap : Nat) (V : Nat → Int) (w : World) (hl : len ≤ 64) (hg : IArg w A len V) (j : Nat) (hj : j < len) (hno : okVal (V j) = false) :
    Calls Tryd.prog 32 #[.slice A len cap] w fun e w' => e = .returned (.tuple #[.string ⟨#[]⟩, .bool false]) ∧ Below w.heap.size w w' := by
  have hlz : (len : Int) ≤ 64 := by omega
  have HG := Lib.hid hg
  have HN := Lib.hid hno
  clear hg hno
  go_enter Tryd.func32, Tryd.ntmps32
  go_wp2
  go_loop [11] (fun i => ∃ k : Nat, k ≤ j ∧ i = .int .i64 k) (fun i => len - (RowKit.intOf i).toNat)
  case atStart => exact ⟨0, Nat.zero_le _, rfl⟩
  case round =>
    obtain ⟨k, hk, rfl⟩ := hrel
    have hlt : k < len := by omega
    obtain ⟨a, rfl, _, c1, _⟩ := HG.out k hlt
    obtain ⟨x, hx⟩ : ∃ x, x = V k := ⟨_, rfl⟩
    rw [← hx] at c1
    rcases Int.lt_or_le x (-1000000000000000) with v1 | v1
    · clear hx
      go_wp2
      go_ret2
      exact ⟨rfl, Below.refl _ _⟩
    · rcases Int.lt_or_le 1000000000000000 x with v2 | v2
      · have v3 : decide (x ≤ 1000000000000000) = false := decide_eq_false (by omega)
        clear hx v2
        go_wp2
        go_ret2
        exact ⟨rfl, Below.refl _ _⟩
      · have hkj : k < j := by
          rcases Nat.lt_or_ge k j with h | h
          · exact h
          · exfalso
            obtain rfl : k = j := by omega
            have := HN.out
            rw [← hx, okVal_yes ⟨v1, v2⟩] at this; cases this
        clear hx
        go_wp2
        go_round
        case rel => exact ⟨k + 1, by omega, by go_num⟩
        case measure => simp [RowKit.intOf]; omega
theorem specListTextYes (A : Option Addr) (len cap : Nat) (V : Nat → Int) (w : World) (hl : len ≤ 64) (hg : IArg w A len V) (hok : allOk V len) :
    Calls Tryd.prog 30 #[.slice A len cap] w fun e w' => ∃ s : ByteArray, e = .returned (.tuple #[.string s, .bool true]) ∧ s.data.toList = listTxt (dV V) len ∧ Below w.heap.size w w' := by
  have hlz : (len : Int) ≤ 64 := by omega
  have HG := Lib.hid hg
  have HK := Lib.hid hok
  clear hg hok
  have hd : decide ((len : Int) ≤ 64) = true := decide_eq_true hlz
  go_enter Tryd.func30, Tryd.ntmps30
  go_wp2_with (first | (go_at_call 52; refine (specListOk A len cap V _ (by omega) HG.out HK.out).mono ?_; rintro e w1 ⟨rfl, rfl⟩) | (go_at_call 53; refine (specText A len cap V _ hl HG.out HK.out).mono ?_; rintro e w2 ⟨s, rfl, hs, B2⟩) | go_in)
  go_ret2
  exact ⟨s, rfl, hs, B2⟩
theorem specListTextLong (A : Option Addr) (len cap : Nat) (V : Nat → Int) (w : World) (hl1 : len ≤ 1048576) (hl : 64 < len) (hg : IArg w A len V) (hok : allOk V len) :
    Calls Tryd.prog 30 #[.slice A len cap] w fun e w' => e = .returned (.tuple #[.string ⟨#[]⟩, .bool false]) ∧ Below w.heap.size w w' := by
  have hd : decide ((len : Int) ≤ 64) = false := decide_eq_false (by omega)
  have HG := Lib.hid hg
  have HK := Lib.hid hok
  clear hg hok
  go_enter Tryd.func30, Tryd.ntmps30
  go_wp2_with (first | (go_at_call 52; refine (specListOk A len cap V _ hl1 HG.out HK.out).mono ?_; rintro e w1 ⟨rfl, rfl⟩) | go_in)
  go_ret2
  exact ⟨rfl, Below.refl _ _⟩
theorem specListTextNo (A : Option Addr) (len cap : Nat) (V : Nat → Int) (w : World) (hl1 : len ≤ 1048576) (hg : IArg w A len V) (j : Nat) (hj : j < len) (hno : okVal (V j) = false) :
    Calls Tryd.prog 30 #[.slice A len cap] w fun e w' => e = .returned (.tuple #[.string ⟨#[]⟩, .bool false]) ∧ Below w.heap.size w w' := by
  have HG := Lib.hid hg
  have HN := Lib.hid hno
  clear hg hno
  go_enter Tryd.func30, Tryd.ntmps30
  go_wp2_with (first | (go_at_call 52; refine (specListNo A len cap V _ hl1 HG.out j hj HN.out).mono ?_; rintro e w1 ⟨rfl, rfl⟩) | go_in)
  go_ret2
  exact ⟨rfl, Below.refl _ _⟩
end Go.Proofs.YtlpjclglhjcghaaDoor
