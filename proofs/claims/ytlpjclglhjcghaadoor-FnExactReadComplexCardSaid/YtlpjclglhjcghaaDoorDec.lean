/- The reference's text of a number in decimal. No condition. -/
import Derived.Test.YtlpjclglhjcghaaDoorChecked
import Derived.KernelRfl
import Derived.WalkKit
import Derived.ProofKit
import Derived.Below
import Derived.Lib.Hide
import Derived.Lib.ItoaLen
import Derived.Lib.ItoaNum
import Derived.Lib.UnsafeStr
import Derived.Laws.AppendOwn
import Derived.Laws.OwnMore
import Derived.Deep.AppendLies
import Derived.Laws.IdiomStrings
namespace Go.Proofs.YtlpjclglhjcghaaDoor
open Go.RowKit Go.Lib
theorem infoByte : (Tryd.prog.info? 5).map (fun i => (i.zero, i.size, i.bytes)) = some (some (.int .u8 0), 1, 1) := by kernel_rfl
theorem below_up {a b : World} (h : Below a.heap.size a b) (o : Obj) : Below a.heap.size a (b.alloc o) := h.alloc h.size o
theorem below_alloc1 (w : World) (o : Obj) : Below w.heap.size w (w.alloc o) := (Below.refl _ _).alloc (Nat.le_refl _) _
/-- A row of bytes of the call's own. -/
def OwnsB (w : World) (B g c : Nat) (l : List UInt8) : Prop := w.ownsRow B 5 1 (.slice (some ⟨g, 0, none⟩) l.length c) l.length (byteCells l)
theorem OwnsB.made (w : World) (B : Nat) (h : B ≤ w.heap.size) : OwnsB (w.alloc (.cells #[] 5)) B w.heap.size 0 [] := World.ownsRow_made w #[] 0 h (Nat.zero_le _) rfl
theorem made1 (w : World) (B : Nat) (v : Value) (h : B ≤ w.heap.size) : (w.alloc (.cells #[v] 5)).ownsRow B 5 1 (.slice (some ⟨w.heap.size, 0, none⟩) 1 1) 1 [v] :=
  ⟨rfl, .inr ⟨w.heap.size, 1, #[v], rfl, h, heap_alloc_new w _, Nat.le_refl _, by unfold maxLen; omega, rfl, rfl⟩⟩
theorem byteCells_one (l : List UInt8) : ∀ u ∈ byteCells l, u.oneCell' = true := by
  intro u hu
  obtain ⟨c, _, rfl⟩ := List.mem_map.1 hu
  rfl
theorem add_plain' (g k : Nat) : (⟨g, 0, none⟩ : Addr).add k = ⟨g, k, none⟩ := by
  unfold Addr.add; by_cases h : k = 0 <;> simp [h]
theorem OwnsB.news {w : World} {B g c : Nat} {l : List UInt8} (h : OwnsB w B g c l) : ∀ j u, (byteCells l)[j]? = some u → w.cell? ((⟨g, 0, none⟩ : Addr).add j) = some u := by
  intro j u hu
  have hj : j < l.length := by
    rcases Nat.lt_or_ge j l.length with h | h
    · exact h
    · rw [List.getElem?_eq_none (by simpa [byteCells] using h)] at hu; cases hu
  rw [add_plain', World.ownsRow.cellAt h j (by omega)]; exact hu
theorem OwnsB.alloc {w : World} {B g c : Nat} {l : List UInt8} (h : OwnsB w B g c l) (o : Obj) : OwnsB (w.alloc o) B g c l := World.ownsRow.alloc h o
set_option maxRecDepth 100000 in
/-- THE WALK's LAW: a byte put ahead of a row of the call's own: append to a fresh row of one. -/
theorem wpList_ahead {w : World} {ops : Array Oper} {rest : List Oper} {o : Oper} {a : Act} {Q : Exit → Act → World → Prop} (hgd : o.guard = none) (s x : Operand)
    (ho : o.op = .call { callee := .builtin .append, args := #[s, x], argTypes := #[84, 84] })
    (B : Nat) (d : UInt8) (dv : Value) (hd : dv = .int .u8 (d.toNat : Int)) (hs : a.eval s = .slice (some ⟨w.heap.size, 0, none⟩) 1 1) (m g c : Nat) (l : List UInt8) (hm : m = l.length) (hx : a.eval x = .slice (some ⟨g, 0, none⟩) m c) (hl : OwnsB w B g c l) (hB : B ≤ w.heap.size) (hlen : l.length ≤ 1048576)
    (h : ∀ g' c' w', Hid (OwnsB w' B g' c' (d :: l)) → (∀ B0 a0, B0 ≤ B → Below B0 a0 w → Below B0 a0 w') → wpList Tryd.prog ops Q rest (a.put o.dst (.slice (some ⟨g', 0, none⟩) (m + 1) c')) w') : wpList Tryd.prog ops Q (o :: rest) a (w.alloc (.cells #[dv] 5)) := by
  subst hm hd
  obtain ⟨i0, hi, hz0, hz1, hz2⟩ := info_parts infoByte
  refine wpList_append_own _ hgd s x 84 ho B 5 i0 (.int .u8 0) 1 1 Tryd.underlying84 hi hz0 hz1 hz2 rfl (by decide) _ 1 _ hs (made1 w B _ hB) ⟨g, 0, none⟩ l.length c (byteCells l) hx (by simp [byteCells]) (hl.alloc _).news (byteCells_one l) (by unfold maxLen; omega) (by omega) (Nat.le_trans hB (below_alloc1 w _).size) ?_
  intro v' w' hown hgrow _
  obtain ⟨g', c', rfl, hg', hlt'⟩ := hown.form (by omega)
  have e : [Value.int .u8 (d.toNat : Int)] ++ byteCells l = byteCells (d :: l) := rfl
  have e2 : 1 + l.length = (d :: l).length := by simp; omega
  rw [e, e2] at hown
  rw [e2]
  exact h g' c' w' hown (fun B0 a0 hB0 hb => (hb.alloc (Nat.le_trans hB0 hB) _).grown hgrow (Nat.le_trans hB0 (Nat.le_trans hB (below_alloc1 w _).size)) (fun k hk => by
    simp only [Value.ownBlock, Option.some.injEq] at hk; omega))
theorem OwnsB.grown' {w w' : World} {B g c : Nat} {l : List UInt8} (h : OwnsB w B g c l) (hb : w'.heap[g]? = w.heap[g]?) : OwnsB w' B g c l := by
  refine ⟨h.1, ?_⟩
  rcases h.2 with ⟨e1, e2⟩ | ⟨g', cap, cur, e1, e2, e3, e4⟩
  · exact .inl ⟨e1, e2⟩
  · simp only [Value.slice.injEq, Option.some.injEq, Addr.mk.injEq, and_true, true_and] at e1
    obtain ⟨rfl, rfl⟩ := e1
    exact .inr ⟨g, c, cur, rfl, e2, hb.trans e3, e4⟩
theorem OwnsB.conv {w : World} {B g c m : Nat} {l : List UInt8} (h : OwnsB w B g c l) (hm : m = l.length) : (convert 84 9 (.slice (some ⟨g, 0, none⟩) m c)).run Tryd.prog w = .ok (.string ⟨l.toArray⟩) w := by
  rw [hm]
  exact run_convert_bytes_back w 84 9 5 ⟨g, 0, none⟩ c l Tryd.underlying84 Tryd.underlying5 Tryd.underlying9 (fun j hj => h.news j _ (by simp [byteCells, hj]))
/-- What is written so far. -/
def dinv (N u : Nat) (l : List UInt8) : Prop := decDigits N = if u = 0 ∧ l ≠ [] then l else decDigits u ++ l
theorem dinv_start (N : Nat) : dinv N N [] := by unfold dinv; rw [if_neg (by simp)]; simp
theorem dinv_step {N u : Nat} {l : List UInt8} (h : dinv N u l) (hgo : l = [] ∨ u ≠ 0) : dinv N (u / 10) (UInt8.ofNat (48 + u % 10) :: l) := by
  unfold dinv at h ⊢
  rw [if_neg (by rintro ⟨h0, h1⟩; rcases hgo with h | h <;> contradiction)] at h
  rw [h, decDigits]
  by_cases hu : u < 10
  · rw [dif_pos hu, if_pos ⟨by omega, by simp⟩, Nat.mod_eq_of_lt hu]; rfl
  · rw [dif_neg hu, if_neg (by rintro ⟨h0, _⟩; omega)]; simp
theorem dinv_end {N : Nat} {l : List UInt8} (h : dinv N 0 l) (hl : l ≠ []) : l = decDigits N := by
  unfold dinv at h; rw [if_pos ⟨rfl, hl⟩] at h; exact h.symm
theorem dinv_len {N u : Nat} {l : List UInt8} (h : dinv N u l) (hN : N < 18446744073709551616) : l.length ≤ 20 := by
  have h2 : (decDigits N).length ≤ 20 := by rw [decDigits_length]; exact nDigits_le20 N hN
  unfold dinv at h
  rw [h] at h2
  split at h2
  · exact h2
  · rw [List.length_append] at h2; omega
def outLen : Value → Nat
  | .slice _ n _ => n
  | _ => 0
theorem digit_val (u : Nat) : (Value.int .u8 (48 + (u : Int) % 10)) = .int .u8 ((UInt8.ofNat (48 + u % 10)).toNat : Int) := by
  have e : (UInt8.ofNat (48 + u % 10)).toNat = 48 + u % 10 := by
    rw [UInt8.toNat_ofNat']; omega
  rw [e]; congr 1
theorem digit_val2 {u k : Nat} (h : k = u % 10) : (Value.int .u8 (48 + (k : Int))) = .int .u8 ((UInt8.ofNat (48 + u % 10)).toNat : Int) := by
  have e : (UInt8.ofNat (48 + u % 10)).toNat = 48 + u % 10 := by
    rw [UInt8.toNat_ofNat']; omega
  rw [e, ← h]; congr 1
theorem digit_val0 {u : Nat} (h : 0 = u % 10) : (Value.int .u8 48) = .int .u8 ((UInt8.ofNat (48 + u % 10)).toNat : Int) := digit_val2 h
theorem neg_mod (u : Nat) : (-(u : Int)).tmod 10 = -((u % 10 : Nat) : Int) := by rw [Int.neg_tmod]; rfl
theorem neg_div (u : Nat) : (-(u : Int)).tdiv 10 = -((u / 10 : Nat) : Int) := by rw [Int.neg_tdiv]; rfl
set_option maxHeartbeats 1000000 in
set_option maxRecDepth 100000 in
theorem dec_pos (N : Nat) (w : World) (hN : N ≤ 9223372036854775807) :
    Calls Tryd.prog 48 #[.int .i64 (N : Int)] w fun e w' => e = .returned (.string ⟨(decDigits N).toArray⟩) ∧ Below w.heap.size w w' := by
  have hNz : (N : Int) ≤ 9223372036854775807 := by omega
  have t0 : decide ((N : Int) < 0) = false := decide_eq_false (by omega)
  have HO0 := Lib.hid (OwnsB.made w w.heap.size (Nat.le_refl _))
  have hb0 := below_alloc1 w (.cells #[] 5)
  have HD0 := Lib.hid (dinv_start N)
  go_enter Tryd.func48, Tryd.ntmps48
  go_wp2
  go_loopw [3, 4] (fun out r wr => ∃ (l : List UInt8) (m u g c : Nat), out = .slice (some ⟨g, 0, none⟩) m c ∧ Hid (m = l.length) ∧ r = .int .i64 (u : Int) ∧ u ≤ N ∧ Hid (dinv N u l) ∧ Hid (OwnsB wr w.heap.size g c l) ∧ Below w.heap.size w wr) (fun out r _ => (intOf r).natAbs + (1 - outLen out))
  case atStart => exact ⟨[], 0, N, w.heap.size, 0, rfl, rfl, rfl, Nat.le_refl _, HD0, HO0, hb0⟩
  case round =>
    obtain ⟨l, m, u, g, c, rfl, hm, rfl, hu, HD, HO, hb⟩ := hrel
    have huz : (u : Int) ≤ (N : Int) := by omega
    have hlen := dinv_len HD.out (by omega)
    by_cases hgo : l = [] ∨ u ≠ 0
    · have HD2 := Lib.hid (dinv_step HD.out hgo)
      have hfact : (l = [] ∧ m = 0) ∨ (l ≠ [] ∧ u ≠ 0 ∧ m ≠ 0) := by
        by_cases hl0 : l = []
        · subst hl0; exact .inl ⟨rfl, by rw [hm.out]; rfl⟩
        · refine .inr ⟨hl0, by rcases hgo with h | h; exact absurd h hl0; exact h, ?_⟩
          rw [hm.out]; intro h; exact hl0 (List.length_eq_zero_iff.1 h)
      have HF := Lib.hid hfact
      clear hgo
      rcases hfact with ⟨_, hm0⟩ | ⟨_, hu0, hm0⟩
      all_goals
        have hmm := hm0
        first | (have e1 : ((m : Int) == 0) = true := by simp; omega) | (have e1 : ((m : Int) == 0) = false := by simp; omega)
        try have e2 : ((u : Int) != 0) = true := by simp; omega
        clear hmm hm0
        go_wp2_with (at_builtin; refine wpList_ahead rfl (.tmp 24) (.tmp 25) rfl w.heap.size (UInt8.ofNat (48 + u % 10)) _ (digit_val u) rfl m g c l hm.out rfl (by exact HO.out) hb.size (by omega) ?_; intro g' c' w' HN hbN)
        have hb9 := hbN _ w (Nat.le_refl _) hb
        go_roundw
        case rel => exact ⟨UInt8.ofNat (48 + u % 10) :: l, m + 1, u / 10, g', c', rfl, by unfold Hid; rw [hm.out]; rfl, congrArg (Value.int .i64) (by first | omega | rfl), by omega, HD2, HN, hb9⟩
        case measure => simp [intOf, outLen]; have := HF.out; omega
    · have hlu : l ≠ [] ∧ u = 0 := by
        refine ⟨fun h => hgo (.inl h), ?_⟩
        by_cases h : u = 0
        · exact h
        · exact absurd (.inr h) hgo
      obtain ⟨hl0, rfl⟩ := hlu
      have HE := Lib.hid (dinv_end HD.out hl0)
      have hm0 : m ≠ 0 := by rw [hm.out]; intro h; exact hl0 (List.length_eq_zero_iff.1 h)
      have e1 : ((m : Int) == 0) = false := by simp; omega
      clear hgo hl0
      have hcv := HO.out.conv hm.out
      go_wp2
      go_ret
      exact ⟨by rw [HE.out]; rfl, hb⟩
set_option maxHeartbeats 1000000 in
set_option maxRecDepth 100000 in
theorem dec_neg (N : Nat) (w : World) (hN : N ≤ 9223372036854775808) (h0 : 1 ≤ N) :
    Calls Tryd.prog 48 #[.int .i64 (-(N : Int))] w fun e w' => e = .returned (.string ⟨((45 :: decDigits N)).toArray⟩) ∧ Below w.heap.size w w' := by
  have hNz : (N : Int) ≤ 9223372036854775808 := by omega
  have t0 : decide ((-(N : Int)) < 0) = true := decide_eq_true (by omega)
  have HO0 := Lib.hid (OwnsB.made w w.heap.size (Nat.le_refl _))
  have hb0 := below_alloc1 w (.cells #[] 5)
  have HD0 := Lib.hid (dinv_start N)
  go_enter Tryd.func48, Tryd.ntmps48
  go_wp2
  go_loopw [3, 4] (fun out r wr => ∃ (l : List UInt8) (m u g c : Nat), out = .slice (some ⟨g, 0, none⟩) m c ∧ Hid (m = l.length) ∧ r = .int .i64 (-(u : Int)) ∧ u ≤ N ∧ Hid (dinv N u l) ∧ Hid (OwnsB wr w.heap.size g c l) ∧ Below w.heap.size w wr) (fun out r _ => (intOf r).natAbs + (1 - outLen out))
  case atStart => exact ⟨[], 0, N, w.heap.size, 0, rfl, rfl, rfl, Nat.le_refl _, HD0, HO0, hb0⟩
  case round =>
    obtain ⟨l, m, u, g, c, rfl, hm, rfl, hu, HD, HO, hb⟩ := hrel
    have huz : (u : Int) ≤ (N : Int) := by omega
    have hlen := dinv_len HD.out (by omega)
    by_cases hgo : l = [] ∨ u ≠ 0
    · have HD2 := Lib.hid (dinv_step HD.out hgo)
      have hfact : (l = [] ∧ m = 0) ∨ (l ≠ [] ∧ u ≠ 0 ∧ m ≠ 0) := by
        by_cases hl0 : l = []
        · subst hl0; exact .inl ⟨rfl, by rw [hm.out]; rfl⟩
        · refine .inr ⟨hl0, by rcases hgo with h | h; exact absurd h hl0; exact h, ?_⟩
          rw [hm.out]; intro h; exact hl0 (List.length_eq_zero_iff.1 h)
      have HF := Lib.hid hfact
      clear hgo
      rcases hfact with ⟨_, hm0⟩ | ⟨_, hu0, hm0⟩
      all_goals
        have hmm := hm0
        first | (have e1 : ((m : Int) == 0) = true := by simp; omega) | (have e1 : ((m : Int) == 0) = false := by simp; omega)
        try have e2 : ((-(u : Int)) != 0) = true := by simp; omega
        clear hmm hm0
        have em := neg_mod u
        have ed := neg_div u
        obtain ⟨k, hk⟩ : ∃ k : Nat, k = u % 10 := ⟨_, rfl⟩
        obtain ⟨v, hv⟩ : ∃ v : Nat, v = u / 10 := ⟨_, rfl⟩
        rw [← hk] at em
        rw [← hv] at ed
        have HK := Lib.hid hk
        have HV := Lib.hid hv
        have hvu : v ≤ u := by omega
        have hmz : u ≠ 0 → v < u := by omega
        have HM := Lib.hid hmz
        have hk9 : k ≤ 9 := by omega
        have hkz : (k : Int) ≤ 9 := by omega
        have hvz : (v : Int) ≤ 922337203685477581 := by omega
        clear hk hv hmz
        by_cases hk0 : k = 0
        · subst hk0
          rw [show (-((0 : Nat) : Int)) = 0 from rfl] at em
          go_wp2_with (at_builtin; refine wpList_ahead rfl (.tmp 24) (.tmp 25) rfl w.heap.size (UInt8.ofNat (48 + u % 10)) _ (digit_val0 HK.out) rfl m g c l hm.out rfl (by exact HO.out) hb.size (by omega) ?_; intro g' c' w' HN hbN)
          have hb9 := hbN _ w (Nat.le_refl _) hb
          go_roundw
          case rel => exact ⟨UInt8.ofNat (48 + u % 10) :: l, m + 1, v, g', c', rfl, by unfold Hid; rw [hm.out]; rfl, congrArg (Value.int .i64) (by first | omega | rfl), by omega, by rw [HV.out]; exact HD2, HN, hb9⟩
          case measure => simp [intOf, outLen]; have := HF.out; have := HM.out; omega
        · have tk : decide (-(k : Int) < 0) = true := decide_eq_true (by omega)
          go_wp2_with (at_builtin; refine wpList_ahead rfl (.tmp 24) (.tmp 25) rfl w.heap.size (UInt8.ofNat (48 + u % 10)) _ (digit_val2 HK.out) rfl m g c l hm.out rfl (by exact HO.out) hb.size (by omega) ?_; intro g' c' w' HN hbN)
          have hb9 := hbN _ w (Nat.le_refl _) hb
          go_roundw
          case rel => exact ⟨UInt8.ofNat (48 + u % 10) :: l, m + 1, v, g', c', rfl, by unfold Hid; rw [hm.out]; rfl, congrArg (Value.int .i64) (by first | omega | rfl), by omega, by rw [HV.out]; exact HD2, HN, hb9⟩
          case measure => simp [intOf, outLen]; have := HF.out; have := HM.out; omega
    · have hlu : l ≠ [] ∧ u = 0 := by
        refine ⟨fun h => hgo (.inl h), ?_⟩
        by_cases h : u = 0
        · exact h
        · exact absurd (.inr h) hgo
      obtain ⟨hl0, rfl⟩ := hlu
      have HE := Lib.hid (dinv_end HD.out hl0)
      have hm0 : m ≠ 0 := by rw [hm.out]; intro h; exact hl0 (List.length_eq_zero_iff.1 h)
      have e1 : ((m : Int) == 0) = false := by simp; omega
      clear hgo hl0
      have hcv := HO.out.conv hm.out
      clear hcv
      have e0 : ((-((0 : Nat) : Int)) != 0) = false := by simp
      go_wp2_with (at_builtin; refine wpList_ahead rfl (.tmp 31) (.tmp 32) rfl w.heap.size 45 _ rfl rfl m g c l hm.out rfl (by exact HO.out) hb.size (by omega) ?_; intro g' c' w' HN hbN; have hcv := HN.out.conv (show m + 1 = (45 :: l).length by rw [hm.out]; rfl))
      have hb9 := hbN _ w (Nat.le_refl _) hb
      go_wp2
      go_ret
      exact ⟨by rw [HE.out]; rfl, hb9⟩
end Go.Proofs.YtlpjclglhjcghaaDoor
