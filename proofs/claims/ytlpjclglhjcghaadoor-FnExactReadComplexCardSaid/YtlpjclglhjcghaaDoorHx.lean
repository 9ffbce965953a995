/- strconv.FormatInt at base 16, for numbers of 32 bits. No condition. -/
import Derived.Test.YtlpjclglhjcghaaDoorDec
import Derived.Test.YtlpjclglhjcghaaDoorIl
import Derived.Lib.Hide
import Derived.Laws.BitsAllLaws
import Derived.Laws.IdiomStrings
namespace Go.Proofs.YtlpjclglhjcghaaDoor
open Go Go.RowKit Go.Lib

set_option maxRecDepth 100000 in
theorem tz16 (w : World) (hz : w.cell? ⟨8, 15, none⟩ = some (.int .u8 4)) :
    Calls Tryd.prog 115 #[.int .u64 16] w fun e w' => e = .returned (.int .i64 4) ∧ w' = w := by
  have e1 : (IntKind.u64.wrap (bits BinOp.and IntKind.u64 16 (IntKind.u64.wrap (-16)) * 285870213051353865) / 288230376151711744).toNat = 15 := by decide +kernel
  have h2 := hz
  rw [← e1] at h2
  go_enter Tryd.func115, Tryd.ntmps115
  go_wp2
  go_ret
  exact ⟨rfl, rfl⟩

/-- A number in hexadecimal. -/
def hexc (d : Nat) : UInt8 := UInt8.ofNat (if d < 10 then 48 + d else 87 + d)
def hexd (u : Nat) : List UInt8 :=
  if _h : u < 16 then [hexc u] else hexd (u / 16) ++ [hexc (u % 16)]
termination_by u
decreasing_by omega
theorem hexd_small {u : Nat} (h : u < 16) : hexd u = [hexc u] := by rw [hexd, dif_pos h]
theorem hexd_big {u : Nat} (h : ¬ u < 16) : hexd u = hexd (u / 16) ++ [hexc (u % 16)] := by rw [hexd, dif_neg h]
theorem hexd_len : ∀ (k u : Nat), u < 16 ^ (k + 1) → (hexd u).length ≤ k + 1
  | 0, u, h => by rw [hexd_small (by simpa using h)]; simp
  | k + 1, u, h => by
    by_cases h0 : u < 16
    · rw [hexd_small h0]; simp
    · rw [hexd_big h0, List.length_append]
      have := hexd_len k (u / 16) (by rw [Nat.pow_succ] at h; omega)
      simp; omega
theorem hexd_pos (u : Nat) : 1 ≤ (hexd u).length := by
  by_cases h0 : u < 16
  · rw [hexd_small h0]; simp
  · rw [hexd_big h0, List.length_append]; simp
theorem and15 (u : Nat) (h : u < 4294967296) : bits BinOp.and IntKind.u64 (u : Int) 15 = ((u % 16 : Nat) : Int) := by
  have := u64_and_nat u 15 (by omega) (by decide)
  rw [show (15 : Int) = ((15 : Nat) : Int) from rfl, this, show (15 : Nat) = 2 ^ 4 - 1 from rfl, Nat.and_two_pow_sub_one_eq_mod]
def digitsT : ByteArray := ⟨#[48, 49, 50, 51, 52, 53, 54, 55, 56, 57, 97, 98, 99, 100, 101, 102, 103, 104, 105, 106, 107, 108, 109, 110, 111, 112, 113, 114, 115, 116, 117, 118, 119, 120, 121, 122]⟩
theorem digT : ∀ d : Fin 16, digitsT.data[d.val]'(by have := d.isLt; show d.val < 36; omega) = hexc d.val := by decide +kernel
/-- A block of digits, filled from its end down to i. -/
structure Dig (w wr : World) (g i : Nat) (D : List UInt8) : Prop where
  there : ∀ j, j < 65 → ∃ u, wr.cell? ⟨g, j, none⟩ = some u
  vals : ∀ j (h : j < D.length), wr.cell? ⟨g, i + j, none⟩ = some (.int .u8 (D[j].toNat : Int))
  frz : ∀ j, wr.frozen? ⟨g, j, none⟩ = false
  low : Below g w wr
  big : g < wr.heap.size
theorem Dig.step {w wr : World} {g i : Nat} {D : List UInt8} (h : Dig w wr g (i + 1) D) (hi : i < 65) (c : UInt8) : Dig w (wr.setCell ⟨g, i, none⟩ (.int .u8 (c.toNat : Int))) g i (c :: D) := by
  obtain ⟨u, hu⟩ := h.there i hi
  have ne : ∀ j, j ≠ i → (⟨g, i, none⟩ : Addr) ≠ ⟨g, j, none⟩ := fun j hj e => hj (by injection e with _ e2; exact e2.symm)
  refine ⟨fun j hj => ?_, fun j hj => ?_, fun j => by rw [World.frozen?_setCell]; exact h.frz j, h.low.setCell (Nat.le_refl _) _, by simp [World.setCell]; exact h.big⟩
  · by_cases e : j = i
    · subst e; exact ⟨_, World.cell?_setCell_same _ _ _ hu⟩
    · rw [World.cell?_setCell_other _ _ _ _ (ne j e)]; exact h.there j hj
  · match j, hj with
    | 0, _ => exact World.cell?_setCell_same _ _ _ hu
    | j + 1, hj =>
      rw [World.cell?_setCell_other _ _ _ _ (ne _ (by omega))]
      have := h.vals j (by simpa using hj)
      rw [show i + (j + 1) = i + 1 + j by omega]
      simpa using this
theorem Dig.start (w : World) : Dig w (w.alloc (.cells Tryd.zeroCells129 129)) w.heap.size 65 [] := by
  have hs : Tryd.zeroCells129.size = 65 := by kernel_rfl
  exact ⟨fun j hj => ⟨Tryd.zeroCells129[j]'(by omega), by simp [hs, hj]⟩, fun j hj => absurd hj (Nat.not_lt_zero _), fun j => by simp, below_alloc1 _ _, by simp⟩
set_option maxHeartbeats 1000000 in
set_option maxRecDepth 100000 in
theorem fmtBits (N : Nat) (w : World) (hN : N < 4294967296) (hz : w.cell? ⟨8, 15, none⟩ = some (.int .u8 4)) :
    Calls Tryd.prog 91 #[.slice none 0 0, .int .u64 (N : Int), .int .i64 16, .bool false, .bool false] w fun e w' => e = .returned (.tuple #[.slice none 0 0, .string ⟨(hexd N).toArray⟩]) ∧ Below w.heap.size w w' := by
  have hNz : (N : Int) ≤ 4294967295 := by omega
  have hzb : ∀ w', Below w.heap.size w w' → w'.cell? ⟨8, 15, none⟩ = some (.int .u8 4) := fun w' hb => (hb.cell (p := ⟨8, 15, none⟩) (lt_of_cell hz)).trans hz
  have HZ := Lib.hid hzb
  have HD0 := Lib.hid (Dig.start w)
  clear hz hzb
  go_enter Tryd.func91, Tryd.ntmps91
  go_wp2_with (first | (go_at_call 115; refine (tz16 _ (HZ.out _ (below_alloc1 _ _))).mono ?_; rintro e w1 ⟨rfl, rfl⟩) | go_in)
  go_loopw [1, 13] (fun uv iv wr => ∃ (u i : Nat) (D : List UInt8), uv = .int .u64 (u : Int) ∧ iv = .int .i64 (i : Int) ∧ i + D.length = 65 ∧ u ≤ N ∧ Hid (hexd N = hexd u ++ D) ∧ Hid (Dig w wr w.heap.size i D)) (fun uv _ _ => (RowKit.intOf uv).toNat)
  case atStart => exact ⟨N, 65, [], rfl, rfl, rfl, Nat.le_refl _, by unfold Hid; simp, HD0⟩
  case round =>
    obtain ⟨u, i, D, rfl, rfl, hi, hu, hD, hG⟩ := hrel
    have huz : (u : Int) ≤ 4294967295 := by omega
    have hlenN := hexd_len 7 N (by omega)
    have hposu := hexd_pos u
    have hDl : D.length ≤ 7 := by have := congrArg List.length hD.out; rw [List.length_append] at this; omega
    clear hlenN hposu
    by_cases h16 : u < 16
    · have e1 : decide ((16 : Int) ≤ (u : Int)) = false := decide_eq_false (by omega)
      obtain ⟨m, rfl⟩ : ∃ m, i = m + 1 := ⟨i - 1, by omega⟩
      have i1 : (m : Int) ≤ 64 := by omega
      have i2 : 57 ≤ (m : Int) := by omega
      have hu15 : (u : Int) ≤ 15 := by omega
      obtain ⟨u0, hu0⟩ := hG.out.there m (by omega)
      have hfz := hG.out.frz m
      have hal : Tryd.prog.arrayLen 129 = 65 := by kernel_rfl
      have hel : Tryd.prog.elem 129 = 5 := by kernel_rfl
      have hsl : ∀ W, (Instr.sliceAt 129 (.pointer (some ⟨w.heap.size, 0, none⟩)) (some (.int .i64 (m : Int))) none none).run Tryd.prog W = .ok (.slice (some ⟨w.heap.size, m, none⟩) (65 - m) (65 - m)) W := fun W => by
        rw [run_sliceAt_array_l W 129 ⟨w.heap.size, 0, none⟩ (by rw [hel]; exact Tryd.underlying129) .i64 m (by omega) (by rw [hal]; omega), hal, hel]
        go_simp
        try omega
      have hG2 := hG.out.step (by omega) (hexc u)
      have e := digT ⟨u, h16⟩
      have hG3 : Dig w (wr.setCell ⟨w.heap.size, m, none⟩ (.int .u8 ((({ data := #[48, 49, 50, 51, 52, 53, 54, 55, 56, 57, 97, 98, 99, 100, 101, 102, 103, 104, 105, 106, 107, 108, 109, 110, 111, 112, 113, 114, 115, 116, 117, 118, 119, 120, 121, 122] } : ByteArray)[u]'(by show u < 36; omega)).toNat : Int))) w.heap.size m (hexc u :: D) :=
        (congrArg (fun c : UInt8 => Dig w (wr.setCell ⟨w.heap.size, m, none⟩ (.int .u8 (c.toNat : Int))) w.heap.size m (hexc u :: D)) e).mpr hG2
      have hfull : hexd N = hexc u :: D := by rw [hD.out, hexd_small h16]; rfl
      have hcv : (convert 84 9 (.slice (some ⟨w.heap.size, m, none⟩) (65 - m) (65 - m))).run Tryd.prog (wr.setCell ⟨w.heap.size, m, none⟩ (.int .u8 ((({ data := #[48, 49, 50, 51, 52, 53, 54, 55, 56, 57, 97, 98, 99, 100, 101, 102, 103, 104, 105, 106, 107, 108, 109, 110, 111, 112, 113, 114, 115, 116, 117, 118, 119, 120, 121, 122] } : ByteArray)[u]'(by show u < 36; omega)).toNat : Int))) = .ok (.string ⟨(hexd N).toArray⟩) (wr.setCell ⟨w.heap.size, m, none⟩ (.int .u8 ((({ data := #[48, 49, 50, 51, 52, 53, 54, 55, 56, 57, 97, 98, 99, 100, 101, 102, 103, 104, 105, 106, 107, 108, 109, 110, 111, 112, 113, 114, 115, 116, 117, 118, 119, 120, 121, 122] } : ByteArray)[u]'(by show u < 36; omega)).toNat : Int))) := by
        rw [hfull, show 65 - m = (hexc u :: D).length by simp; omega]
        exact run_convert_bytes_back _ 84 9 5 ⟨w.heap.size, m, none⟩ _ _ Tryd.underlying84 Tryd.underlying5 Tryd.underlying9 (fun j hj => by
          have := hG3.vals j hj
          unfold Addr.add
          by_cases h0 : j = 0
          · subst h0; simpa using this
          · simpa [h0] using this)
      have HL := Lib.hid hG3.low
      clear hG2 hG3 hfull e hal hel
      go_wp2
      go_ret2
      exact ⟨rfl, HL.out⟩
    · have e1 : decide ((16 : Int) ≤ (u : Int)) = true := decide_eq_true (by omega)
      obtain ⟨m, rfl⟩ : ∃ m, i = m + 1 := ⟨i - 1, by omega⟩
      have i1 : (m : Int) ≤ 64 := by omega
      have i2 : 57 ≤ (m : Int) := by omega
      obtain ⟨d, hd⟩ : ∃ d, u % 16 = d := ⟨_, rfl⟩
      have hd16 : (d : Int) ≤ 15 := by omega
      have eb : bits BinOp.and IntKind.u64 (u : Int) 15 = (d : Int) := by rw [← hd]; exact and15 u (by omega)
      have HD := Lib.hid hd
      clear hd
      obtain ⟨u0, hu0⟩ := hG.out.there m (by omega)
      have hfz := hG.out.frz m
      go_wp2
      go_roundw
      case rel =>
        refine ⟨u / 16, m, hexc d :: D, by rfl, rfl, by simp; omega, by omega, ?_, ?_⟩
        · unfold Hid; rw [hD.out, hexd_big h16, HD.out]; simp
        · have := hG.out.step (by omega) (hexc d)
          have e := digT ⟨d, by omega⟩
          exact (congrArg (fun c : UInt8 => Dig w (wr.setCell ⟨w.heap.size, m, none⟩ (.int .u8 (c.toNat : Int))) w.heap.size m (hexc d :: D)) e).mpr this
      case measure => simp [RowKit.intOf]; omega
set_option maxRecDepth 100000 in
theorem fmtInt16 (N : Nat) (w : World) (hN : N < 4294967296) (hz : w.cell? ⟨8, 15, none⟩ = some (.int .u8 4)) :
    Calls Tryd.prog 49 #[.int .i64 (N : Int), .int .i64 16] w fun e w' => e = .returned (.string ⟨(hexd N).toArray⟩) ∧ Below w.heap.size w w' := by
  have hNz : (N : Int) ≤ 4294967295 := by omega
  have h0 : decide ((N : Int) < 0) = false := decide_eq_false (by omega)
  have HZ := Lib.hid hz
  clear hz
  go_enter Tryd.func49, Tryd.ntmps49
  go_wp2_with (first | (go_at_call 91; refine (fmtBits N _ hN HZ.out).mono ?_; rintro e w1 ⟨rfl, B1⟩) | go_in)
  go_ret
  exact ⟨rfl, B1⟩
end Go.Proofs.YtlpjclglhjcghaaDoor
