/- The walks of NumbersText, of the program and of the reference. No condition. -/
import Derived.Test.YtlpjclglhjcghaaDoorHt
import Derived.Test.YtlpjclglhjcghaaDoorLt
import Derived.Test.YtlpjclglhjcghaaDoorArg
namespace Go.Proofs.YtlpjclglhjcghaaDoor
open Go Go.RowKit Go.Lib

/-- The text of a list's number. -/
def hV (V : Nat → Nat) (i : Nat) : List UInt8 := hxT (V i)
theorem hV_len (V : Nat → Nat) (n : Nat) : ∀ i, i < n → (hV V i).length ≤ 8 := fun _ _ => Nat.le_of_eq (hxT_len _)
theorem specHexB (x : Nat) (w : World) (hx : x < 2 ^ 32) :
    Calls Tryd.prog 80 #[.float .f32 x] w fun e w' => ∃ b : ByteArray, e = .returned (.string b) ∧ Hid (b.data.toList = hxT x) ∧ (b.size : Int) ≤ 8 ∧ Below w.heap.size w w' := by
  refine (specHex x hx w).mono fun e w' ⟨b, h1, h2, h3⟩ => ⟨b, h1, h2, ?_, h3⟩
  have h4 : b.data.toList.length = b.size := by simp
  rw [h2.out, hxT_len] at h4; omega
theorem ba_of {b : ByteArray} {l : List UInt8} (h : b.data.toList = l) : b = ⟨l.toArray⟩ := by
  subst h; simp
theorem implBitsT (x : Nat) (w : World) (hx : x < 2 ^ 32) (hz : w.cell? ⟨8, 15, none⟩ = some (.int .u8 4)) :
    Calls Tryd.prog 60 #[.float .f32 x] w fun e w' => e = .returned (.string ⟨(hxT x).toArray⟩) ∧ Below w.heap.size w w' := by
  refine (implBitsText x hx w hz).mono fun e w' ⟨b, h1, h2, h3⟩ => ⟨?_, h3⟩
  rw [h1, ba_of h2.out]

set_option maxHeartbeats 1000000 in
set_option maxRecDepth 100000 in
theorem specNText (A : Option Addr) (len cap : Nat) (V : Nat → Nat) (w : World) (hl : len ≤ 256) (hg : Fl.FArg w A len V) :
    Calls Tryd.prog 57 #[.slice A len cap] w fun e w' => ∃ s : ByteArray, e = .returned (.string s) ∧ s.data.toList = listTxt (hV V) len ∧ Below w.heap.size w w' := by
  have hlz : (len : Int) ≤ 256 := by omega
  have HG := Lib.hid hg
  clear hg
  by_cases h0 : len = 0
  · subst h0
    go_enter Tryd.func57, Tryd.ntmps57
    go_wp2
    go_ret
    exact ⟨_, rfl, rfl, Below.refl _ _⟩
  · have h1 : 1 ≤ len := by omega
    have hT : listTxt (hV V) len = jt (hV V) len := by unfold listTxt; rw [if_neg h0]
    have HT := Lib.hid hT
    clear hT
    have e0 : ((len : Int) == 0) = false := by simp; omega
    obtain ⟨a, rfl, hab, c1, i1⟩ := HG.out 0 (by omega)
    rw [show a.add 0 = a from by unfold Addr.add; simp] at c1
    obtain ⟨x, hx⟩ : ∃ x, x = V 0 := ⟨_, rfl⟩
    rw [← hx] at c1 i1
    have HX := Lib.hid hx
    have HI := Lib.hid i1
    have hpos : (0 : Int) < (len : Int) := by omega
    clear hx i1 h0
    go_enter Tryd.func57, Tryd.ntmps57
    go_wp2_with (first | (go_at_call 80; refine (specHexB x _ HI.out).mono ?_; rintro e w1 ⟨b, rfl, hb, hbs, B1⟩) | go_in)
    have H0 : Hid (b.data.toList = jt (hV V) 1) := by unfold Hid; rw [hb.out, jt_one, HX.out]; rfl
    go_loopw [3, 4] (fun out i wr => ∃ (k : Nat) (s : ByteArray), 1 ≤ k ∧ k ≤ len ∧ i = .int .i64 k ∧ out = .string s ∧ Hid (s.data.toList = jt (hV V) k) ∧ (s.size : Int) ≤ 9 * k ∧ Below w.heap.size w wr) (fun _ i _ => len - (RowKit.intOf i).toNat)
    case atStart => exact ⟨1, b, Nat.le_refl _, h1, rfl, rfl, H0, by omega, B1⟩
    case round =>
      obtain ⟨k, s, hk1, hk, rfl, rfl, hs, hsz, hB⟩ := hrel
      by_cases hlt : k < len
      · obtain ⟨a', ha', _, c2, i2⟩ := HG.out k hlt
        obtain rfl := Option.some.inj ha'
        obtain ⟨y, hy⟩ : ∃ y, y = V k := ⟨_, rfl⟩
        rw [← hy] at c2 i2
        have HY := Lib.hid hy
        have HI2 := Lib.hid i2
        have c3 : wr.cell? (a.add k) = some (.float .f32 y) := (hB.cell (p := a.add k) (by rw [addb]; exact hab)).trans c2
        clear hy i2 c2 ha'
        go_wp2_with (first | (go_at_call 80; refine (specHexB y _ HI2.out).mono ?_; rintro e w2 ⟨b2, rfl, hb2, hbs2, B2⟩) | go_in)
        have H2 : Hid ((s ++ (⟨#[44]⟩ ++ b2)).data.toList = jt (hV V) (k + 1)) := by
          unfold Hid; rw [Go.Joins.data_append, Go.Joins.data_append, hs.out, hb2.out, jt_succ _ _ hk1, HY.out]; rfl
        have hsz2 : ((s ++ (⟨#[44]⟩ ++ b2)).size : Int) ≤ 9 * ((k + 1 : Nat) : Int) := by
          simp [ByteArray.size_append]
          have : (⟨#[44]⟩ : ByteArray).size = 1 := rfl
          omega
        go_roundw
        case rel => exact ⟨k + 1, _, by omega, by omega, by go_num, rfl, H2, hsz2, hB.trans (B2.mono hB.size)⟩
        case measure => simp [RowKit.intOf]; omega
      · obtain rfl : k = len := by omega
        go_wp2
        go_ret
        exact ⟨s, rfl, by rw [HT.out]; exact hs.out, hB⟩

/-- The elements' texts, as strings. -/
def sH (V : Nat → Nat) (k : Nat) : List ByteArray := (List.range k).map fun i => ⟨(hxT (V i)).toArray⟩
theorem sH_len (V : Nat → Nat) (k : Nat) : (sH V k).length = k := by simp [sH]
theorem sH_succ (V : Nat → Nat) (k : Nat) : sH V (k + 1) = sH V k ++ [⟨(hxT (V k)).toArray⟩] := by simp [sH, List.range_succ]
theorem sH_data (V : Nat → Nat) (k : Nat) : Lib.join ((sH V k).map (·.data.toList)) [44] = jt (hV V) k := by
  unfold sH jt hV; rw [List.map_map]; rfl
set_option maxHeartbeats 1000000 in
set_option maxRecDepth 100000 in
theorem implJoinH (A : Option Addr) (len cap : Nat) (V : Nat → Nat) (w : World) (hl : len ≤ 256) (hg : Fl.FArg w A len V) (hz : w.cell? ⟨8, 15, none⟩ = some (.int .u8 4)) :
    Calls Tryd.prog 59 #[.slice A len cap, .func (.func 60) #[] #[]] w fun e w' => e = .returned (.string ⟨(listTxt (hV V) len).toArray⟩) ∧ Below w.heap.size w w' := by
  have hlz : (len : Int) ≤ 256 := by omega
  have HG := Lib.hid hg
  have hzb : ∀ w', Below w.heap.size w w' → w'.cell? ⟨8, 15, none⟩ = some (.int .u8 4) := fun w' hb => (hb.cell (p := ⟨8, 15, none⟩) (lt_of_cell hz)).trans hz
  have HZ := Lib.hid hzb
  clear hg hz hzb
  by_cases h0 : len = 0
  · subst h0
    go_enter Tryd.func59, Tryd.ntmps59
    go_wp2
    go_ret
    exact ⟨rfl, Below.refl _ _⟩
  · have h1 : 1 ≤ len := by omega
    have hT : listTxt (hV V) len = jt (hV V) len := by unfold listTxt; rw [if_neg h0]
    have HT := Lib.hid hT
    clear hT
    have e0 : ((len : Int) == 0) = false := by simp; omega
    have H0 : Hid (SOwn w w.heap.size (.slice none 0 0) (sH V 0)) := SOwn.nil _ _
    clear h0
    go_enter Tryd.func59, Tryd.ntmps59
    go_wp2
    go_loopw [5, 13] (fun ws i wr => ∃ k : Nat, k ≤ len ∧ i = .int .i64 k ∧ Hid (SOwn wr w.heap.size ws (sH V k)) ∧ Below w.heap.size w wr) (fun _ i _ => len - (RowKit.intOf i).toNat)
    case atStart => exact ⟨0, Nat.zero_le _, rfl, H0, Below.refl _ _⟩
    case round =>
      obtain ⟨k, hk, rfl, hO, hB⟩ := hrel
      by_cases hlt : k < len
      · obtain ⟨a, rfl, hab, c2, i2⟩ := HG.out k hlt
        obtain ⟨y, hy⟩ : ∃ y, V k = y := ⟨_, rfl⟩
        rw [hy] at c2 i2
        have HY := Lib.hid hy
        have HI2 := Lib.hid i2
        have c3 : wr.cell? (a.add k) = some (.float .f32 y) := (hB.cell (p := a.add k) (by rw [addb]; exact hab)).trans c2
        clear hy i2 c2
        go_wp2_with (first | (go_at_call 60; refine (implBitsT y _ HI2.out (HZ.out _ hB)).mono ?_; rintro e w2 ⟨rfl, B2⟩; have HO2 := Lib.hid (SOwn.on hO.out B2)) | (at_builtin; refine wpList_sadd rfl (.tmp 17) (.tmp 21) rfl w.heap.size _ (sH V k) _ rfl rfl HO2.out (Nat.le_trans hB.size B2.size) (by rw [sH_len]; omega) ?_; intro v' w3 HO3 hb3) | go_in)
        have HO4 : Hid (SOwn w3 w.heap.size v' (sH V (k + 1))) := by unfold Hid; rw [sH_succ, HY.out]; exact HO3.out
        have HB3 := hb3 _ w (Nat.le_refl _) (hB.trans (B2.mono hB.size))
        go_roundw
        case rel => exact ⟨k + 1, by omega, by go_num, HO4, HB3⟩
        case measure => simp [RowKit.intOf]; omega
      · obtain rfl : k = len := by omega
        obtain ⟨g, c, hv, hg1, hg2⟩ := World.ownsRow.form hO.out (by rw [sH_len]; omega)
        rw [sH_len] at hv
        subst hv
        go_wp2_with (first | (go_at_call 79; refine (joinW _ w.heap.size g c _ (sH V _) (sH_len V _).symm (by rw [sH_len]; omega) (by rw [sH_data]; have := jt_len (hV V) 8 _ h1 (hV_len V _); omega) hO.out h1).mono ?_; rintro e w2 ⟨rfl, B2⟩) | go_in)
        go_ret
        exact ⟨by rw [HT.out, ← sH_data]; rfl, hB.trans (B2.mono hB.size)⟩

set_option maxRecDepth 100000 in
theorem implNText (A : Option Addr) (len cap : Nat) (V : Nat → Nat) (w : World) (hl : len ≤ 256) (hg : Fl.FArg w A len V) (hz : w.cell? ⟨8, 15, none⟩ = some (.int .u8 4)) :
    Calls Tryd.prog 35 #[.slice A len cap] w fun e w' => e = .returned (.tuple #[.string ⟨(listTxt (hV V) len).toArray⟩, .bool true]) ∧ Below w.heap.size w w' := by
  have hlz : (len : Int) ≤ 256 := by omega
  have HG := Lib.hid hg
  have HZ := Lib.hid hz
  have hd : decide ((len : Int) ≤ 256) = true := decide_eq_true hlz
  clear hg hz
  go_enter Tryd.func35, Tryd.ntmps35
  go_wp2_with (first | (go_at_call 59; refine (implJoinH A len cap V _ hl HG.out HZ.out).mono ?_; rintro e w2 ⟨rfl, B2⟩) | go_in)
  go_ret2
  exact ⟨rfl, B2⟩
theorem implNTextLong (A : Option Addr) (len cap : Nat) (w : World) (hl : 256 < len) :
    Calls Tryd.prog 35 #[.slice A len cap] w fun e w' => e = .returned (.tuple #[.string ⟨#[]⟩, .bool false]) ∧ Below w.heap.size w w' := by
  have hd : decide ((len : Int) ≤ 256) = false := decide_eq_false (by omega)
  go_enter Tryd.func35, Tryd.ntmps35
  go_wp2
  go_ret2
  exact ⟨rfl, Below.refl _ _⟩
theorem specNTextYes (A : Option Addr) (len cap : Nat) (V : Nat → Nat) (w : World) (hl : len ≤ 256) (hg : Fl.FArg w A len V) :
    Calls Tryd.prog 33 #[.slice A len cap] w fun e w' => ∃ s : ByteArray, e = .returned (.tuple #[.string s, .bool true]) ∧ s.data.toList = listTxt (hV V) len ∧ Below w.heap.size w w' := by
  have hlz : (len : Int) ≤ 256 := by omega
  have HG := Lib.hid hg
  have hd : decide ((len : Int) ≤ 256) = true := decide_eq_true hlz
  clear hg
  go_enter Tryd.func33, Tryd.ntmps33
  go_wp2_with (first | (go_at_call 57; refine (specNText A len cap V _ hl HG.out).mono ?_; rintro e w2 ⟨s, rfl, hs, B2⟩) | go_in)
  go_ret2
  exact ⟨s, rfl, hs, B2⟩
theorem specNTextLong (A : Option Addr) (len cap : Nat) (w : World) (hl : 256 < len) :
    Calls Tryd.prog 33 #[.slice A len cap] w fun e w' => e = .returned (.tuple #[.string ⟨#[]⟩, .bool false]) ∧ Below w.heap.size w w' := by
  have hd : decide ((len : Int) ≤ 256) = false := decide_eq_false (by omega)
  go_enter Tryd.func33, Tryd.ntmps33
  go_wp2
  go_ret2
  exact ⟨rfl, Below.refl _ _⟩
end Go.Proofs.YtlpjclglhjcghaaDoor
