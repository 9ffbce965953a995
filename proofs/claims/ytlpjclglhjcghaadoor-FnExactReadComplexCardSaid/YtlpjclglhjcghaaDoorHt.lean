/- The texts of a number's bits, of the program and of the reference. No condition. -/
import Derived.Test.YtlpjclglhjcghaaDoorHp
import Derived.Test.YtlpjclglhjcghaaDoorBits
import Derived.Test.YtlpjclglhjcghaaDoorSr
import Derived.Test.YtlpjclglhjcghaaDoorTx
namespace Go.Proofs.YtlpjclglhjcghaaDoor
open Go Go.RowKit Go.Lib

/-- The number of a number's bits, all NaNs made one. -/
def bitN (x : Nat) : Nat := Fl.nz .f32 x
theorem bitsV_N (x : Nat) : bitsV x = (bitN x : Int) := bitsV_nz x
/-- The text of a number's bits. -/
def hxT (x : Nat) : List UInt8 := padH 8 (bitN x)
theorem hxT_len (x : Nat) : (hxT x).length = 8 := padH_len 8 _
theorem repL : ∀ c : Nat, Lib.repeatL [48] c = List.replicate c 48
  | 0 => rfl
  | c + 1 => by rw [Lib.repeatL, repL c, List.replicate_succ]; rfl
theorem rep0 (c : Nat) (w : World) (hc : c ≤ 8) :
    Calls Tryd.prog 82 #[.string ⟨#[48]⟩, .int .i64 (c : Int)] w fun e w' => ∃ b : ByteArray, e = .returned (.string b) ∧ Hid (b.data.toList = List.replicate c 48) ∧ Below w.heap.size w w' := by
  rcases (show c = 0 ∨ c = 1 ∨ 2 ≤ c by omega) with rfl | rfl | h2
  · exact (Tryd.strings_Repeat_zero _ w).mono fun e w' h => ⟨_, h.1, rfl, by rw [h.2]; exact Below.refl _ _⟩
  · exact (Tryd.strings_Repeat_one _ w).mono fun e w' h => ⟨_, h.1, rfl, by rw [h.2]; exact Below.refl _ _⟩
  · refine (Tryd.strings_Repeat_main ⟨#[48]⟩ c w h2 (by omega) (by show 1 * c ≤ _; omega) (by decide)).mono fun e w' h => ⟨_, h.1, ?_, h.2⟩
    exact repL c
theorem bitN_lt {x : Nat} (h : x < 2 ^ 32) : bitN x < 4294967296 := by
  unfold bitN Fl.nz
  split
  · decide
  · exact h
theorem repB (k : Int) (c : Nat) (hk : k = (c : Int)) (w : World) (hc : c ≤ 8) :
    Calls Tryd.prog 82 #[.string ⟨#[48]⟩, .int .i64 k] w fun e w' => ∃ b : ByteArray, e = .returned (.string b) ∧ Hid (b.data.toList = List.replicate c 48) ∧ (b.size : Int) ≤ 8 ∧ Below w.heap.size w w' := by
  subst hk
  refine (rep0 c w hc).mono fun e w' ⟨b, h1, h2, h3⟩ => ⟨b, h1, h2, ?_, h3⟩
  have : b.data.toList.length = b.size := by simp
  rw [h2.out, List.length_replicate] at this; omega
theorem fmtB (N : Nat) (w : World) (hN : N < 4294967296) (hz : w.cell? ⟨8, 15, none⟩ = some (.int .u8 4)) :
    Calls Tryd.prog 49 #[.int .i64 (N : Int), .int .i64 16] w fun e w' => ∃ b : ByteArray, e = .returned (.string b) ∧ Hid (b.data.toList = hexd N) ∧ (1 ≤ (b.size : Int) ∧ (b.size : Int) ≤ 8) ∧ Below w.heap.size w w' := by
  refine (fmtInt16 N w hN hz).mono fun e w' h => ⟨_, h.1, rfl, ?_, h.2⟩
  have h1 := hexd_len 7 N hN
  have h2 := hexd_pos N
  simp [ByteArray.size]; omega
set_option maxRecDepth 100000 in
theorem implBitsText (x : Nat) (hx : x < 2 ^ 32) (w : World) (hz : w.cell? ⟨8, 15, none⟩ = some (.int .u8 4)) :
    Calls Tryd.prog 60 #[.float .f32 x] w fun e w' => ∃ b : ByteArray, e = .returned (.string b) ∧ Hid (b.data.toList = hxT x) ∧ Below w.heap.size w w' := by
  have HB := Lib.hid (bitsV_N x)
  have HZ := Lib.hid hz
  have HX := Lib.hid hx
  have HL := Lib.hid (bitN_lt hx)
  clear hz hx
  go_enter Tryd.func60, Tryd.ntmps60
  go_wp2_with (first | (go_at_call 81; refine (implBits_any x HX.out _).mono ?_; rw [HB.out]; rintro e w1 ⟨rfl, rfl⟩) | (go_at_call 49; refine (fmtB (bitN x) _ HL.out HZ.out).mono ?_; rintro e w2 ⟨b, rfl, hb, ⟨hb1, hb2⟩, B2⟩) | (go_at_call 82; refine (repB _ (8 - b.size) (by omega) _ (by omega)).mono ?_; rintro e w3 ⟨c, rfl, hc, hc1, B3⟩) | go_in)
  go_ret
  refine ⟨_, rfl, ?_, B2.trans (B3.mono B2.size)⟩
  unfold Hid
  rw [Go.Joins.data_append, hc.out, hb.out]
  have h1 := pad_hexd 7 (bitN x) HL.out
  have h2 : b.size = (hexd (bitN x)).length := by rw [← hb.out]; simp
  rw [h2]; exact h1
set_option maxRecDepth 100000 in
/-- THE WALK's LAW: a byte put behind a row of the call's own. -/
theorem wpList_badd {w : World} {ops : Array Oper} {rest : List Oper} {o : Oper} {a : Act} {Q : Exit → Act → World → Prop} (hgd : o.guard = none) (s x : Operand)
    (ho : o.op = .call { callee := .builtin .append, args := #[s, x], argTypes := #[84, 84] })
    (B g c : Nat) (l : List UInt8) (d : UInt8) (dv : Value) (hd : dv = .int .u8 (d.toNat : Int)) (n : Nat) (hn : n = l.length) (hs : a.eval s = .slice (some ⟨g, 0, none⟩) n c) (hx : a.eval x = .slice (some ⟨w.heap.size, 0, none⟩) 1 1) (hl : OwnsB w B g c l) (hB : B ≤ w.heap.size) (hlen : l.length ≤ 1048576)
    (h : ∀ g' c' w', Hid (OwnsB w' B g' c' (l ++ [d])) → (∀ B0 a0, B0 ≤ B → Below B0 a0 w → Below B0 a0 w') → wpList Tryd.prog ops Q rest (a.put o.dst (.slice (some ⟨g', 0, none⟩) (n + 1) c')) w') : wpList Tryd.prog ops Q (o :: rest) a (w.alloc (.cells #[dv] 5)) := by
  subst hn hd
  obtain ⟨i0, hi, hz0, hz1, hz2⟩ := info_parts infoByte
  refine wpList_append_own _ hgd s x 84 ho B 5 i0 (.int .u8 0) 1 1 Tryd.underlying84 hi hz0 hz1 hz2 rfl (by decide) (.slice (some ⟨g, 0, none⟩) l.length c) l.length (byteCells l) hs (OwnsB.alloc hl _) ⟨w.heap.size, 0, none⟩ 1 1 [.int .u8 (d.toNat : Int)] hx rfl (fun j u hu => ?_) (fun u hu => ?_) (by unfold maxLen; omega) (by omega) (Nat.le_trans hB (below_alloc1 w _).size) ?_
  · match j, hu with
    | 0, hu =>
      simp only [List.getElem?_cons_zero, Option.some.injEq] at hu
      subst hu
      rw [add_plain0]
      simp
    | j + 1, hu => simp at hu
  · rw [List.mem_singleton] at hu; subst hu; rfl
  · intro v' w' hown hgrow _
    obtain ⟨g', c', rfl, hg', hlt'⟩ := hown.form (by omega)
    have e : byteCells l ++ [Value.int .u8 (d.toNat : Int)] = byteCells (l ++ [d]) := by simp [byteCells]
    have e2 : l.length + 1 = (l ++ [d]).length := by simp
    rw [e] at hown
    have hown2 : OwnsB w' B g' c' (l ++ [d]) := by unfold OwnsB; rw [← e2]; exact hown
    exact h g' c' w' hown2 (fun B0 a0 hB0 hb => (hb.alloc (Nat.le_trans hB0 hB) _).grown hgrow (Nat.le_trans hB0 (Nat.le_trans hB (below_alloc1 w _).size)) (fun k hk => by
      have := (World.ownsRow.lt hl k hk).1; omega))
theorem padH_get : ∀ (n u k : Nat), k < n → (padH n u)[k]? = some (hexc (u / 16 ^ (n - 1 - k) % 16))
  | 0, _, _, h => absurd h (Nat.not_lt_zero _)
  | n + 1, u, k, h => by
    rw [padH]
    by_cases hk : k < n
    · rw [List.getElem?_append_left (by rw [padH_len]; exact hk), padH_get n (u / 16) k hk, Nat.div_div_eq_div_mul]
      rw [show n + 1 - 1 - k = (n - 1 - k) + 1 by omega, Nat.pow_succ, Nat.mul_comm]
    · obtain rfl : k = n := by omega
      rw [List.getElem?_append_right (by rw [padH_len]; exact Nat.le_refl _), padH_len, Nat.sub_self, show k + 1 - 1 - k = 0 by omega]
      simp
theorem hexTake (N k d : Nat) (hk : k < 8) (hd : N / 16 ^ (7 - k) % 16 = d) : (padH 8 N).take (k + 1) = (padH 8 N).take k ++ [hexc d] := by
  rw [List.take_add_one, padH_get 8 N k hk, hd]; rfl
def hexs : ByteArray := ⟨#[48, 49, 50, 51, 52, 53, 54, 55, 56, 57, 97, 98, 99, 100, 101, 102]⟩
theorem hexsT : ∀ d : Fin 16, hexs.data[d.val]'(by have := d.isLt; show d.val < 16; omega) = hexc d.val := by decide +kernel
theorem and15i (u : Nat) (h : u < 4294967296) : bits BinOp.and IntKind.i64 (u : Int) 15 = ((u % 16 : Nat) : Int) := by
  have h15 : (BitVec.ofInt 64 15).toNat = 2 ^ 4 - 1 := by decide
  have key : (BitVec.ofInt 64 (u : Int) &&& BitVec.ofInt 64 15).toNat = ((u : Int) % ((2 ^ 64 : Nat) : Int)).toNat % 2 ^ 4 := by
    rw [BitVec.toNat_and, BitVec.toNat_ofInt, h15, Nat.and_two_pow_sub_one_eq_mod]
  show IntKind.i64.wrap ((BitVec.ofInt 64 (u : Int) &&& BitVec.ofInt 64 15).toNat : Nat) = _
  rw [key, IntKind.wrap_i64]
  omega
set_option maxHeartbeats 2000000 in
set_option maxRecDepth 100000 in
theorem specHex (x : Nat) (hx : x < 2 ^ 32) (w : World) :
    Calls Tryd.prog 80 #[.float .f32 x] w fun e w' => ∃ b : ByteArray, e = .returned (.string b) ∧ Hid (b.data.toList = hxT x) ∧ Below w.heap.size w w' := by
  have HB := Lib.hid (bitsV_N x)
  have HX := Lib.hid hx
  obtain ⟨N, hN⟩ : ∃ N, bitN x = N := ⟨_, rfl⟩
  have hlt : N < 4294967296 := by rw [← hN]; exact bitN_lt hx
  have hlz : (N : Int) ≤ 4294967295 := by omega
  have HL := Lib.hid hlt
  have HN := Lib.hid hN
  have HO0 := Lib.hid (OwnsB.made w w.heap.size (Nat.le_refl _))
  have hb0 := below_alloc1 w (.cells #[] 5)
  clear hx hN hlt
  go_enter Tryd.func80, Tryd.ntmps80
  go_wp2_with (first | (go_at_call 66; refine (specBits_any x HX.out _).mono ?_; rw [HB.out, HN.out]; rintro e w1 ⟨rfl, rfl⟩) | go_in)
  go_loopw [4, 5] (fun out i wr => ∃ (k g c : Nat), k ≤ 8 ∧ i = .int .i64 (28 - 4 * (k : Int)) ∧ out = .slice (some ⟨g, 0, none⟩) k c ∧ Hid (OwnsB wr w.heap.size g c ((padH 8 N).take k)) ∧ Below w.heap.size w wr) (fun _ i _ => (RowKit.intOf i + 4).toNat)
  case atStart => exact ⟨0, _, 0, by omega, rfl, rfl, HO0, hb0⟩
  case round =>
    obtain ⟨k, g, c, hk, rfl, rfl, hO, hB⟩ := hrel
    have hk9 : k = 0 ∨ k = 1 ∨ k = 2 ∨ k = 3 ∨ k = 4 ∨ k = 5 ∨ k = 6 ∨ k = 7 ∨ k = 8 := by omega
    clear hk
    rcases hk9 with rfl | rfl | rfl | rfl | rfl | rfl | rfl | rfl | rfl
    · obtain ⟨d, hd⟩ : ∃ d, N / 16 ^ (7 - 0) % 16 = d := ⟨_, rfl⟩
      have hd' : N / 268435456 % 16 = d := hd
      have hd16 : (d : Int) ≤ 15 := by omega
      have eb : bits BinOp.and IntKind.i64 ((N : Int) / 268435456) 15 = (d : Int) := by rw [show (N : Int) / 268435456 = ((N / 268435456 : Nat) : Int) by omega, and15i _ (by have := HL.out; omega), hd']
      have hlt16 : d < 16 := by omega
      have HT := Lib.hid ((hexTake N 0 d (by decide) hd).trans (by rw [← hexsT ⟨d, hlt16⟩]))
      clear hd hd'
      go_wp2_with (first | (at_builtin; refine wpList_badd rfl (.tmp 13) (.tmp 20) rfl w.heap.size g c _ (({ data := #[48, 49, 50, 51, 52, 53, 54, 55, 56, 57, 97, 98, 99, 100, 101, 102] } : ByteArray)[d]'(by show d < 16; omega)) _ rfl _ (by rw [List.length_take, padH_len]; rfl) rfl rfl hO.out hB.size (by rw [List.length_take, padH_len]; decide) ?_; intro g' c' w3 HO3 hb3) | go_in)
      have HB3 := hb3 _ w (Nat.le_refl _) hB
      go_roundw
      case rel => exact ⟨1, g', c', by decide, by rfl, rfl, by unfold Hid; rw [HT.out]; exact HO3.out, HB3⟩
      case measure => decide
    · obtain ⟨d, hd⟩ : ∃ d, N / 16 ^ (7 - 1) % 16 = d := ⟨_, rfl⟩
      have hd' : N / 16777216 % 16 = d := hd
      have hd16 : (d : Int) ≤ 15 := by omega
      have eb : bits BinOp.and IntKind.i64 ((N : Int) / 16777216) 15 = (d : Int) := by rw [show (N : Int) / 16777216 = ((N / 16777216 : Nat) : Int) by omega, and15i _ (by have := HL.out; omega), hd']
      have hlt16 : d < 16 := by omega
      have HT := Lib.hid ((hexTake N 1 d (by decide) hd).trans (by rw [← hexsT ⟨d, hlt16⟩]))
      clear hd hd'
      go_wp2_with (first | (at_builtin; refine wpList_badd rfl (.tmp 13) (.tmp 20) rfl w.heap.size g c _ (({ data := #[48, 49, 50, 51, 52, 53, 54, 55, 56, 57, 97, 98, 99, 100, 101, 102] } : ByteArray)[d]'(by show d < 16; omega)) _ rfl _ (by rw [List.length_take, padH_len]; rfl) rfl rfl hO.out hB.size (by rw [List.length_take, padH_len]; decide) ?_; intro g' c' w3 HO3 hb3) | go_in)
      have HB3 := hb3 _ w (Nat.le_refl _) hB
      go_roundw
      case rel => exact ⟨2, g', c', by decide, by rfl, rfl, by unfold Hid; rw [HT.out]; exact HO3.out, HB3⟩
      case measure => decide
    · obtain ⟨d, hd⟩ : ∃ d, N / 16 ^ (7 - 2) % 16 = d := ⟨_, rfl⟩
      have hd' : N / 1048576 % 16 = d := hd
      have hd16 : (d : Int) ≤ 15 := by omega
      have eb : bits BinOp.and IntKind.i64 ((N : Int) / 1048576) 15 = (d : Int) := by rw [show (N : Int) / 1048576 = ((N / 1048576 : Nat) : Int) by omega, and15i _ (by have := HL.out; omega), hd']
      have hlt16 : d < 16 := by omega
      have HT := Lib.hid ((hexTake N 2 d (by decide) hd).trans (by rw [← hexsT ⟨d, hlt16⟩]))
      clear hd hd'
      go_wp2_with (first | (at_builtin; refine wpList_badd rfl (.tmp 13) (.tmp 20) rfl w.heap.size g c _ (({ data := #[48, 49, 50, 51, 52, 53, 54, 55, 56, 57, 97, 98, 99, 100, 101, 102] } : ByteArray)[d]'(by show d < 16; omega)) _ rfl _ (by rw [List.length_take, padH_len]; rfl) rfl rfl hO.out hB.size (by rw [List.length_take, padH_len]; decide) ?_; intro g' c' w3 HO3 hb3) | go_in)
      have HB3 := hb3 _ w (Nat.le_refl _) hB
      go_roundw
      case rel => exact ⟨3, g', c', by decide, by rfl, rfl, by unfold Hid; rw [HT.out]; exact HO3.out, HB3⟩
      case measure => decide
    · obtain ⟨d, hd⟩ : ∃ d, N / 16 ^ (7 - 3) % 16 = d := ⟨_, rfl⟩
      have hd' : N / 65536 % 16 = d := hd
      have hd16 : (d : Int) ≤ 15 := by omega
      have eb : bits BinOp.and IntKind.i64 ((N : Int) / 65536) 15 = (d : Int) := by rw [show (N : Int) / 65536 = ((N / 65536 : Nat) : Int) by omega, and15i _ (by have := HL.out; omega), hd']
      have hlt16 : d < 16 := by omega
      have HT := Lib.hid ((hexTake N 3 d (by decide) hd).trans (by rw [← hexsT ⟨d, hlt16⟩]))
      clear hd hd'
      go_wp2_with (first | (at_builtin; refine wpList_badd rfl (.tmp 13) (.tmp 20) rfl w.heap.size g c _ (({ data := #[48, 49, 50, 51, 52, 53, 54, 55, 56, 57, 97, 98, 99, 100, 101, 102] } : ByteArray)[d]'(by show d < 16; omega)) _ rfl _ (by rw [List.length_take, padH_len]; rfl) rfl rfl hO.out hB.size (by rw [List.length_take, padH_len]; decide) ?_; intro g' c' w3 HO3 hb3) | go_in)
      have HB3 := hb3 _ w (Nat.le_refl _) hB
      go_roundw
      case rel => exact ⟨4, g', c', by decide, by rfl, rfl, by unfold Hid; rw [HT.out]; exact HO3.out, HB3⟩
      case measure => decide
    · obtain ⟨d, hd⟩ : ∃ d, N / 16 ^ (7 - 4) % 16 = d := ⟨_, rfl⟩
      have hd' : N / 4096 % 16 = d := hd
      have hd16 : (d : Int) ≤ 15 := by omega
      have eb : bits BinOp.and IntKind.i64 ((N : Int) / 4096) 15 = (d : Int) := by rw [show (N : Int) / 4096 = ((N / 4096 : Nat) : Int) by omega, and15i _ (by have := HL.out; omega), hd']
      have hlt16 : d < 16 := by omega
      have HT := Lib.hid ((hexTake N 4 d (by decide) hd).trans (by rw [← hexsT ⟨d, hlt16⟩]))
      clear hd hd'
      go_wp2_with (first | (at_builtin; refine wpList_badd rfl (.tmp 13) (.tmp 20) rfl w.heap.size g c _ (({ data := #[48, 49, 50, 51, 52, 53, 54, 55, 56, 57, 97, 98, 99, 100, 101, 102] } : ByteArray)[d]'(by show d < 16; omega)) _ rfl _ (by rw [List.length_take, padH_len]; rfl) rfl rfl hO.out hB.size (by rw [List.length_take, padH_len]; decide) ?_; intro g' c' w3 HO3 hb3) | go_in)
      have HB3 := hb3 _ w (Nat.le_refl _) hB
      go_roundw
      case rel => exact ⟨5, g', c', by decide, by rfl, rfl, by unfold Hid; rw [HT.out]; exact HO3.out, HB3⟩
      case measure => decide
    · obtain ⟨d, hd⟩ : ∃ d, N / 16 ^ (7 - 5) % 16 = d := ⟨_, rfl⟩
      have hd' : N / 256 % 16 = d := hd
      have hd16 : (d : Int) ≤ 15 := by omega
      have eb : bits BinOp.and IntKind.i64 ((N : Int) / 256) 15 = (d : Int) := by rw [show (N : Int) / 256 = ((N / 256 : Nat) : Int) by omega, and15i _ (by have := HL.out; omega), hd']
      have hlt16 : d < 16 := by omega
      have HT := Lib.hid ((hexTake N 5 d (by decide) hd).trans (by rw [← hexsT ⟨d, hlt16⟩]))
      clear hd hd'
      go_wp2_with (first | (at_builtin; refine wpList_badd rfl (.tmp 13) (.tmp 20) rfl w.heap.size g c _ (({ data := #[48, 49, 50, 51, 52, 53, 54, 55, 56, 57, 97, 98, 99, 100, 101, 102] } : ByteArray)[d]'(by show d < 16; omega)) _ rfl _ (by rw [List.length_take, padH_len]; rfl) rfl rfl hO.out hB.size (by rw [List.length_take, padH_len]; decide) ?_; intro g' c' w3 HO3 hb3) | go_in)
      have HB3 := hb3 _ w (Nat.le_refl _) hB
      go_roundw
      case rel => exact ⟨6, g', c', by decide, by rfl, rfl, by unfold Hid; rw [HT.out]; exact HO3.out, HB3⟩
      case measure => decide
    · obtain ⟨d, hd⟩ : ∃ d, N / 16 ^ (7 - 6) % 16 = d := ⟨_, rfl⟩
      have hd' : N / 16 % 16 = d := hd
      have hd16 : (d : Int) ≤ 15 := by omega
      have eb : bits BinOp.and IntKind.i64 ((N : Int) / 16) 15 = (d : Int) := by rw [show (N : Int) / 16 = ((N / 16 : Nat) : Int) by omega, and15i _ (by have := HL.out; omega), hd']
      have hlt16 : d < 16 := by omega
      have HT := Lib.hid ((hexTake N 6 d (by decide) hd).trans (by rw [← hexsT ⟨d, hlt16⟩]))
      clear hd hd'
      go_wp2_with (first | (at_builtin; refine wpList_badd rfl (.tmp 13) (.tmp 20) rfl w.heap.size g c _ (({ data := #[48, 49, 50, 51, 52, 53, 54, 55, 56, 57, 97, 98, 99, 100, 101, 102] } : ByteArray)[d]'(by show d < 16; omega)) _ rfl _ (by rw [List.length_take, padH_len]; rfl) rfl rfl hO.out hB.size (by rw [List.length_take, padH_len]; decide) ?_; intro g' c' w3 HO3 hb3) | go_in)
      have HB3 := hb3 _ w (Nat.le_refl _) hB
      go_roundw
      case rel => exact ⟨7, g', c', by decide, by rfl, rfl, by unfold Hid; rw [HT.out]; exact HO3.out, HB3⟩
      case measure => decide
    · obtain ⟨d, hd⟩ : ∃ d, N / 16 ^ (7 - 7) % 16 = d := ⟨_, rfl⟩
      have hd' : N / 1 % 16 = d := hd
      have hd16 : (d : Int) ≤ 15 := by omega
      have eb : bits BinOp.and IntKind.i64 ((N : Int)) 15 = (d : Int) := by rw [show (N : Int) = ((N / 1 : Nat) : Int) by omega, and15i _ (by have := HL.out; omega), hd']
      have hlt16 : d < 16 := by omega
      have HT := Lib.hid ((hexTake N 7 d (by decide) hd).trans (by rw [← hexsT ⟨d, hlt16⟩]))
      clear hd hd'
      go_wp2_with (first | (at_builtin; refine wpList_badd rfl (.tmp 13) (.tmp 20) rfl w.heap.size g c _ (({ data := #[48, 49, 50, 51, 52, 53, 54, 55, 56, 57, 97, 98, 99, 100, 101, 102] } : ByteArray)[d]'(by show d < 16; omega)) _ rfl _ (by rw [List.length_take, padH_len]; rfl) rfl rfl hO.out hB.size (by rw [List.length_take, padH_len]; decide) ?_; intro g' c' w3 HO3 hb3) | go_in)
      have HB3 := hb3 _ w (Nat.le_refl _) hB
      go_roundw
      case rel => exact ⟨8, g', c', by decide, by rfl, rfl, by unfold Hid; rw [HT.out]; exact HO3.out, HB3⟩
      case measure => decide
    · have HF := Lib.hid (hO.out.conv (m := 8) (by rw [List.length_take, padH_len]; rfl))
      have hcv : (convert 84 9 (.slice (some ⟨g, 0, none⟩) 8 c)).run Tryd.prog wr = .ok (.string ⟨((padH 8 N).take 8).toArray⟩) wr := HF.out
      go_wp2
      go_ret
      exact ⟨_, rfl, by unfold Hid hxT; rw [HN.out]; exact List.take_of_length_le (by rw [padH_len]; exact Nat.le_refl _), hB⟩
end Go.Proofs.YtlpjclglhjcghaaDoor
