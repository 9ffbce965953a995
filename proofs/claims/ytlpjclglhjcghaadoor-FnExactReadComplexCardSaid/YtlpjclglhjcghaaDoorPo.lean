/- strconv.ParseUint at base 16 and 32 bits: the outer function. No condition. -/
import Derived.Test.YtlpjclglhjcghaaDoorPu
import Derived.Test.YtlpjclglhjcghaaDoorNt
namespace Go.Proofs.YtlpjclglhjcghaaDoor
open Go Go.RowKit Go.Lib
set_option maxRecDepth 100000 in
theorem toErrSyn (fn s : ByteArray) (a b : Int) (w : World) (hs : s.size ≤ 281474976710656) (hE : Errs w) :
    Calls Tryd.prog 84 #[.string fn, .string s, .int .i64 a, .int .i64 b, .iface 119 (.int .i64 2)] w fun e w' => ∃ N, e = .returned (.iface 120 (.pointer (some ⟨N, 0, none⟩))) ∧ Below w.heap.size w w' := by
  obtain ⟨tp, p, hv⟩ := hE.syn
  have h0 := World.var?_cell Tryd.laysPu14.m0 hv 0
  exact (AnyPu.strconv_toError_syntax { Tryd.laysPu14 with } fn s a b (.iface tp p) w hs (by simpa using h0) (Or.inr ⟨tp, p, rfl⟩)).mono fun e w' ⟨N, h1, _, _, h2⟩ => ⟨N, h1, h2⟩
set_option maxRecDepth 100000 in
theorem toErrRng (fn s : ByteArray) (a b : Int) (w : World) (hs : s.size ≤ 281474976710656) (hE : Errs w) :
    Calls Tryd.prog 84 #[.string fn, .string s, .int .i64 a, .int .i64 b, .iface 119 (.int .i64 1)] w fun e w' => ∃ N, e = .returned (.iface 120 (.pointer (some ⟨N, 0, none⟩))) ∧ Below w.heap.size w w' := by
  obtain ⟨tp, p, hv⟩ := hE.rng
  have h0 := World.var?_cell Tryd.laysPu14.m1 hv 0
  exact (AnyPu.strconv_toError_range { Tryd.laysPu14 with } fn s a b (.iface tp p) w hs (by simpa using h0) (Or.inr ⟨tp, p, rfl⟩)).mono fun e w' ⟨N, h1, _, _, h2⟩ => ⟨N, h1, h2⟩
/-- What the outer reading gives. -/
def RetPu (l : List UInt8) (w : World) (e : Ending) (w' : World) : Prop :=
  ((∃ n, pu16 0 l = .ok n ∧ l ≠ [] ∧ e = .returned (.tuple #[.int .u64 (n : Int), .nilIface])) ∨ ((l = [] ∨ ∀ n, pu16 0 l ≠ .ok n) ∧ ∃ x N, e = .returned (.tuple #[.int .u64 x, .iface 120 (.pointer (some ⟨N, 0, none⟩))]))) ∧ Below w.heap.size w w'
set_option maxRecDepth 100000 in
theorem parsePu (s : ByteArray) (hs : s.size ≤ 281474976710656) (w : World) (hE : Errs w) :
    Calls Tryd.prog 67 #[.string s, .int .i64 16, .int .i64 32] w (RetPu s.data.toList w) := by
  have HE := Lib.hid hE
  clear hE
  have hlen : s.data.toList.length = s.size := by simp
  by_cases h0 : s.size = 0
  · have HN : Hid (s.data.toList = [] ∨ ∀ n, pu16 0 s.data.toList ≠ .ok n) := .inl (List.length_eq_zero_iff.1 (by omega))
    clear hlen
    go_enter Tryd.func67, Tryd.ntmps67
    go_wp2_with (first | (go_at_call 87; refine (innerPu_empty s h0 _).mono ?_; rintro e w1 ⟨rfl, rfl⟩; unfold puV) | (go_at_call 84; refine (toErrSyn _ s _ _ _ hs HE.out).mono ?_; rintro e w2 ⟨N, rfl, B2⟩) | go_in)
    go_ret2
    exact ⟨.inr ⟨HN.out, _, _, rfl⟩, B2⟩
  · have HL : Hid (s.data.toList ≠ []) := fun e => by rw [e] at hlen; exact h0 hlen.symm
    clear hlen
    obtain ⟨r, hr⟩ : ∃ r, pu16 0 s.data.toList = r := ⟨_, rfl⟩
    have HR := Lib.hid hr
    have HI : ∀ w, Calls Tryd.prog 87 #[.string s, .int .i64 16, .int .i64 32] w fun e w' => e = .returned (puV r) ∧ Hid (Below w.heap.size w w') := fun w => (innerPu s h0 (by omega) w).mono fun e w' h => ⟨by rw [h.1, HR.out], by rw [h.2]; exact Go.Joins.below_bytesWorld _ _ _ _ (Nat.le_refl _)⟩
    clear hr
    cases r with
    | ok n =>
      go_enter Tryd.func67, Tryd.ntmps67
      go_wp2_with (first | (go_at_call 87; refine (HI _).mono ?_; rintro e w1 ⟨rfl, B1⟩; unfold puV) | go_in)
      go_ret2
      exact ⟨.inl ⟨n, HR.out, HL.out, rfl⟩, B1.out⟩
    | syn =>
      have HN : Hid (s.data.toList = [] ∨ ∀ n, pu16 0 s.data.toList ≠ .ok n) := .inr fun n h => by rw [HR.out] at h; cases h
      go_enter Tryd.func67, Tryd.ntmps67
      go_wp2_with (first | (go_at_call 87; refine (HI _).mono ?_; rintro e w1 ⟨rfl, B1⟩; unfold puV) | (go_at_call 84; refine (toErrSyn _ s _ _ _ hs (HE.out.on B1.out)).mono ?_; rintro e w2 ⟨N, rfl, B2⟩) | go_in)
      go_ret2
      exact ⟨.inr ⟨HN.out, _, _, rfl⟩, below_trans B1.out B2⟩
    | rng =>
      have HN : Hid (s.data.toList = [] ∨ ∀ n, pu16 0 s.data.toList ≠ .ok n) := .inr fun n h => by rw [HR.out] at h; cases h
      go_enter Tryd.func67, Tryd.ntmps67
      go_wp2_with (first | (go_at_call 87; refine (HI _).mono ?_; rintro e w1 ⟨rfl, B1⟩; unfold puV) | (go_at_call 84; refine (toErrRng _ s _ _ _ hs (HE.out.on B1.out)).mono ?_; rintro e w2 ⟨N, rfl, B2⟩) | go_in)
      go_ret2
      exact ⟨.inr ⟨HN.out, _, _, rfl⟩, below_trans B1.out B2⟩
theorem parse_ok (s : ByteArray) (hs : s.size ≤ 281474976710656) (n : Nat) (h : pu16 0 s.data.toList = .ok n) (hne : s.data.toList ≠ []) (w : World) (hE : Errs w) :
    Calls Tryd.prog 67 #[.string s, .int .i64 16, .int .i64 32] w fun e w' => e = .returned (.tuple #[.int .u64 (n : Int), .nilIface]) ∧ Below w.heap.size w w' := by
  refine (parsePu s hs w hE).mono fun e w' ⟨h1, h2⟩ => ⟨?_, h2⟩
  rcases h1 with ⟨m, hm, _, he⟩ | ⟨h3 | h3, _⟩
  · rw [h] at hm; injection hm with hm; rw [he, hm]
  · exact absurd h3 hne
  · exact absurd h (h3 n)
theorem parse_bad (s : ByteArray) (hs : s.size ≤ 281474976710656) (h : s.data.toList = [] ∨ ∀ n, pu16 0 s.data.toList ≠ .ok n) (w : World) (hE : Errs w) :
    Calls Tryd.prog 67 #[.string s, .int .i64 16, .int .i64 32] w fun e w' => ∃ x N, e = .returned (.tuple #[.int .u64 x, .iface 120 (.pointer (some ⟨N, 0, none⟩))]) ∧ Below w.heap.size w w' := by
  refine (parsePu s hs w hE).mono fun e w' ⟨h1, h2⟩ => ?_
  rcases h1 with ⟨m, hm, hne, _⟩ | ⟨_, x, N, he⟩
  · rcases h with h | h
    · exact absurd h hne
    · exact absurd hm (h m)
  · exact ⟨x, N, he, h2⟩
/-- What the reading of numbers needs of the world. -/
structure FullH (w : World) : Prop where
  full : Full w
  tz : w.cell? ⟨8, 15, none⟩ = some (.int .u8 4)
theorem FullH.on {w w' : World} (h : FullH w) (hb : Below w.heap.size w w') : FullH w' :=
  ⟨h.full.on hb, (hb.cell (p := ⟨8, 15, none⟩) (lt_of_cell h.tz)).trans h.tz⟩
set_option maxRecDepth 100000 in
theorem readB_some (s : ByteArray) (hs : s.size ≤ 281474976710656) (n : Nat) (h : rdH s.data.toList = some n) (w : World) (hF : FullH w) :
    Calls Tryd.prog 42 #[.string s] w fun e w' => e = .returned (.tuple #[.float .f32 n, .bool true]) ∧ Below w.heap.size w w' := by
  have HF := Lib.hid hF
  have hn := rdH_lt h
  have hne : s.data.toList ≠ [] := fun e => by rw [e] at h; cases h
  have hp : pu16 0 s.data.toList = .ok n := by
    cases hp : pu16 0 s.data.toList with
    | ok m =>
      have := rdH_ok hp
      rw [h] at this
      split at this
      · injection this with this; rw [this]
      · cases this
    | syn => rw [rdH_no fun m h => by rw [hp] at h; cases h] at h; cases h
    | rng => rw [rdH_no fun m h => by rw [hp] at h; cases h] at h; cases h
  have hx : hxT n = s.data.toList := by
    have := rdH_ok hp
    rw [h] at this
    split at this
    · assumption
    · cases this
  have HX := Lib.hid hx
  have HP := Lib.hid hp
  have HE := Lib.hid hne
  have HN := Lib.hid hn
  have hbeq : (hxT n == s.toList) = true := by rw [Lib.toList_data]; simpa using hx
  have hnz : (n : Int) ≤ 4294967295 := by omega
  have E : Hid (((n : Int) % 4294967296).toNat = n) := by unfold Hid; omega
  clear hx hp hne hF h
  go_enter Tryd.func42, Tryd.ntmps42
  go_wp2_with (first | (go_at_call 67; refine (parse_ok s hs n HP.out HE.out _ HF.out.full.errs).mono ?_; rintro e w1 ⟨rfl, B1⟩) | (go_at_call 60; (try rw [E.out]); refine (implBitsT n _ HN.out (HF.out.on B1).tz).mono ?_; rintro e w2 ⟨rfl, B2⟩) | go_in)
  go_ret2
  exact ⟨by (try rw [E.out]); rfl, below_trans B1 B2⟩
set_option maxRecDepth 100000 in
theorem readB_none (s : ByteArray) (hs : s.size ≤ 281474976710656) (h : rdH s.data.toList = none) (w : World) (hF : FullH w) :
    Calls Tryd.prog 42 #[.string s] w fun e w' => ∃ x, e = .returned (.tuple #[.float .f32 x, .bool false]) ∧ x < 2 ^ 32 ∧ Below w.heap.size w w' := by
  have HF := Lib.hid hF
  clear hF
  by_cases hb : s.data.toList = [] ∨ ∀ n, pu16 0 s.data.toList ≠ .ok n
  · have HB := Lib.hid hb
    clear hb h
    go_enter Tryd.func42, Tryd.ntmps42
    go_wp2_with (first | (go_at_call 67; refine (parse_bad s hs HB.out _ HF.out.full.errs).mono ?_; rintro e w1 ⟨x, N, rfl, B1⟩) | go_in)
    go_ret2
    exact ⟨_, rfl, by decide, B1⟩
  · obtain ⟨hne, hb⟩ := not_or.1 hb
    obtain ⟨n, hp⟩ : ∃ n, pu16 0 s.data.toList = .ok n := Classical.byContradiction fun hc => hb fun n hn => hc ⟨n, hn⟩
    have hn : n < 2 ^ 32 := pu_lt _ 0 n (by decide) hp
    have hx : hxT n ≠ s.data.toList := fun he => by
      have := rdH_ok hp
      rw [h, if_pos he] at this; cases this
    have HP := Lib.hid hp
    have HE := Lib.hid hne
    have HN := Lib.hid hn
    have hbeq : (hxT n == s.toList) = false := by rw [Lib.toList_data]; simpa using hx
    have hnz : (n : Int) ≤ 4294967295 := by omega
    have E : Hid (((n : Int) % 4294967296).toNat = n) := by unfold Hid; omega
    clear hx hp hne hb h
    go_enter Tryd.func42, Tryd.ntmps42
    go_wp2_with (first | (go_at_call 67; refine (parse_ok s hs n HP.out HE.out _ HF.out.full.errs).mono ?_; rintro e w1 ⟨rfl, B1⟩) | (go_at_call 60; (try rw [E.out]); refine (implBitsT n _ HN.out (HF.out.on B1).tz).mono ?_; rintro e w2 ⟨rfl, B2⟩) | go_in)
    go_ret2
    exact ⟨n, by (try rw [E.out]); rfl, hn, below_trans B1 B2⟩
end Go.Proofs.YtlpjclglhjcghaaDoor
