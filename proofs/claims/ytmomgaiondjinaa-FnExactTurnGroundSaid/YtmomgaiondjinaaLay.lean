/- The layer at a depth, the speed at a depth: of the reference and of the program. No condition. -/
import Derived.Test.YtmomgaiondjinaaCos
import Derived.Test.YtmomgaiondjinaaDep
namespace Go.Proofs.Ytmomgaiondjinaa
open Go.RowKit Go.Proofs.Ytmomgaiondjinaa.Fl
def ltB (d x : Nat) : Bool := FloatKind.f32.format.order d x == some .lt
theorem ltB_is (d x : Nat) : (FloatKind.f32.format.order d x == some .lt) = ltB d x := rfl
theorem ltB_nz (d : Nat) {x E : Nat} (h : nz .f32 x = E) : ltB d x = ltB d E := by unfold ltB; rw [← h, order_nz_right]
def depE (L : Nat → Nat → Nat) (i : Nat) : Nat := depV L (i + 1)
/-- The first index at which d is less, else n. -/
def atV (E : Nat → Nat) (d : Nat) : Nat → Nat
  | 0 => 0
  | n + 1 => if atV E d n < n then atV E d n else if ltB d (E n) then n else n + 1
theorem atV_no {E : Nat → Nat} {d : Nat} : ∀ n, (∀ j, j < n → ltB d (E j) = false) → atV E d n = n
  | 0, _ => rfl
  | n + 1, h => by
    have ih := atV_no n (fun j hj => h j (by omega))
    unfold atV
    rw [ih, if_neg (Nat.lt_irrefl _), h n (by omega)]; rfl
theorem atV_yes {E : Nat → Nat} {d : Nat} : ∀ n k, k < n → (∀ j, j < k → ltB d (E j) = false) → ltB d (E k) = true → atV E d n = k
  | 0, _, hk, _, _ => absurd hk (Nat.not_lt_zero _)
  | n + 1, k, hk, h, hy => by
    by_cases e : k = n
    · subst e
      have ih := atV_no k h
      unfold atV
      rw [ih, if_neg (Nat.lt_irrefl _), hy]; rfl
    · have ih := atV_yes n k (by omega) h hy
      unfold atV
      rw [ih, if_pos (by omega)]
theorem atV_le {E : Nat → Nat} {d : Nat} : ∀ n, atV E d n ≤ n
  | 0 => Nat.le_refl _
  | n + 1 => by
    have ih := atV_le (E := E) (d := d) n
    unfold atV
    split
    · omega
    · split <;> omega
theorem step_lt {E : Nat → Nat} {d k : Nat} (h : ∀ j, j < k → ltB d (E j) = false) (hk : ltB d (E k) = false) : ∀ j, j < k + 1 → ltB d (E j) = false := fun j hj => by
  by_cases e : j = k
  · rw [e]; exact hk
  · exact h j (by omega)
theorem FOwnE.at {w : World} {lo : Nat} {A : Option Addr} {n : Nat} {E : Nat → Nat} (h : FOwnE w lo A n E) {k : Nat} (hk : k < n) : ∃ (a : Addr) (x : Nat), A = some a ∧ w.cell? (a.add k) = some (.float .f32 x) ∧ nz .f32 x = E k ∧ x < 2 ^ 32 := by
  obtain ⟨X, h1, h2⟩ := h
  obtain ⟨a, e, _, hc, hv⟩ := h1.arg k hk
  exact ⟨a, X k, e, hc, h2 k hk, hv⟩
set_option maxRecDepth 100000 in
theorem specAt_any (b : Nat) (A : Option Addr) (n c : Nat) (L : Nat → Nat → Nat) (s q d : Nat) (w : World) (hn : n ≤ 1048576) (hG : GBox w b A n c s q) (ha : LArg w A n L) :
    Calls Try.prog 94 #[.pointer (some ⟨b, 0, none⟩), .float .f32 d] w fun e w' => e = .returned (.int .i64 (atV (depE L) d n : Nat)) ∧ Below w.heap.size w w' := by
  have hnz : (n : Int) ≤ 1048576 := by omega
  have HA := hid ha
  have HG := hid hG
  have HN := hid hn
  clear hG ha
  go_enter Try.func94, Try.ntmps94
  go_wp2_with fail
  refine (specDepths_any b A n c L s q _ HN.out HG.out HA.out).mono ?_
  rintro e w1 ⟨B, cap, rfl, HF, hb⟩
  go_wp2
  go_loop [6] (fun i => ∃ k : Nat, k ≤ n ∧ i = .int .i64 k ∧ Hid (∀ j, j < k → ltB d (depE L j) = false)) (fun i => n - (intOf i).toNat)
  case atStart => exact ⟨0, Nat.zero_le _, rfl, fun j hj => absurd hj (Nat.not_lt_zero _)⟩
  case round =>
    obtain ⟨k, hk, rfl, hall⟩ := hrel
    by_cases hlt : k < n
    · obtain ⟨a, x, rfl, c1, hx, bx⟩ := HF.out.at hlt
      have e1 := ltB_nz d hx
      clear hx bx
      have q1 := ltB_is d x
      cases hf : ltB d x
      · rw [hf] at q1
        have HT := hid (step_lt (E := depE L) hall.out (e1.symm.trans hf))
        clear hf e1
        go_wp2
        go_round
        case rel => exact ⟨k + 1, by omega, by go_num, HT⟩
        case measure => simp [intOf]; omega
      · rw [hf] at q1
        have HT := hid (atV_yes (E := depE L) n k hlt hall.out (e1.symm.trans hf))
        clear hf e1
        go_wp2
        go_ret
        exact ⟨by rw [HT.out]; rfl, hb⟩
    · obtain rfl : k = n := by omega
      have HT := hid (atV_no (E := depE L) k hall.out)
      go_wp2
      go_ret
      exact ⟨by rw [HT.out]; rfl, hb⟩
def lyOk (n : Nat) (L : Nat → Nat → Nat) (s q d : Nat) : Bool := validB n L s q && ge0 d
def lyE (n : Nat) (L : Nat → Nat → Nat) (s q d : Nat) : Nat := if lyOk n L s q d then atV (depE L) d n else 0
theorem specLayerAt_any (A : Option Addr) (n c : Nat) (L : Nat → Nat → Nat) (s q d : Nat) (w : World) (hn : n ≤ 1048576) (ha : LArg w A n L) :
    Calls Try.prog 41 #[.agg #[.slice A n c, .float .f32 s, .float .f32 q], .float .f32 d] w fun e w' => e = .returned (.tuple #[.int .i64 (lyE n L s q d : Nat), .bool (lyOk n L s q d)]) ∧ Below w.heap.size w w' := by
  have hbl := below_alloc1 w (.cells #[.slice A n c, .float .f32 s, .float .f32 q] 42)
  have HG := hid (GBox.new w 42 A n c s q)
  have HL := hid (ha.below hbl)
  have HN := hid hn
  clear ha hn
  cases hc : validB n L s q
  · have HC := hid hc
    have H : Hid (lyOk n L s q d = false) := by unfold Hid lyOk; rw [hc]; rfl
    have H2 : Hid (lyE n L s q d = 0) := by unfold Hid lyE; rw [H.out]; rfl
    clear hc
    go_enter Try.func41, Try.ntmps41
    go_wp2_with (go_at_call 80; refine (specIs_any _ A n c L s q _ HN.out HG.out.c0 HG.out.c1 HG.out.c2 HL.out).mono ?_; rintro e w1 ⟨rfl, n1, rfl⟩; rw [HC.out])
    go_ret2
    exact ⟨by rw [H.out, H2.out]; rfl, below_drewN hbl _⟩
  · have HC := hid hc
    have q3 := ge0_is d
    cases hp : ge0 d
    · rw [hp] at q3
      have H : Hid (lyOk n L s q d = false) := by unfold Hid lyOk; rw [hc, hp]; rfl
      have H2 : Hid (lyE n L s q d = 0) := by unfold Hid lyE; rw [H.out]; rfl
      clear hc hp
      go_enter Try.func41, Try.ntmps41
      go_wp2_with (go_at_call 80; refine (specIs_any _ A n c L s q _ HN.out HG.out.c0 HG.out.c1 HG.out.c2 HL.out).mono ?_; rintro e w1 ⟨rfl, n1, rfl⟩; rw [HC.out])
      go_ret2
      exact ⟨by rw [H.out, H2.out]; rfl, below_drewN hbl _⟩
    · rw [hp] at q3
      have H : Hid (lyOk n L s q d = true) := by unfold Hid lyOk; rw [hc, hp]; rfl
      have H2 : Hid (lyE n L s q d = atV (depE L) d n) := by unfold Hid lyE; rw [H.out]; rfl
      clear hc hp
      go_enter Try.func41, Try.ntmps41
      go_wp2_with (go_at_call 80; refine (specIs_any _ A n c L s q _ HN.out HG.out.c0 HG.out.c1 HG.out.c2 HL.out).mono ?_; rintro e w1 ⟨rfl, n1, rfl⟩; rw [HC.out])
      refine (specAt_any _ A n c L s q d _ HN.out (by exact ⟨HG.out.c0, HG.out.c1, HG.out.c2, HG.out.lt⟩) (by exact HL.out)).mono ?_
      rintro e w1 ⟨rfl, B1⟩
      have hb := below_step hbl B1 rfl rfl rfl rfl
      clear B1 hbl
      go_wp2
      go_ret2
      exact ⟨by rw [H.out, H2.out]; rfl, hb⟩
set_option maxHeartbeats 1000000 in
set_option maxRecDepth 100000 in
theorem implLayerAt_any (A : Option Addr) (n c : Nat) (L : Nat → Nat → Nat) (s q d : Nat) (w : World) (hn : n ≤ 1048576) (ha : LArg w A n L) (bs : s < 2 ^ 32) (bq : q < 2 ^ 32) :
    Calls Try.prog 42 #[.agg #[.slice A n c, .float .f32 s, .float .f32 q], .float .f32 d] w fun e w' => e = .returned (.tuple #[.int .i64 (lyE n L s q d : Nat), .bool (lyOk n L s q d)]) ∧ Below w.heap.size w w' := by
  have hbl := below_alloc1 w (.cells #[.slice A n c, .float .f32 s, .float .f32 q] 42)
  have XG := GBox.new w 42 A n c s q
  have HL := ha.below hbl
  have HN := hid hn
  have hnz : (n : Int) ≤ 1048576 := by omega
  clear ha hn
  cases hc : validB n L s q
  · have HC := hid hc
    have H : Hid (lyOk n L s q d = false) := by unfold Hid lyOk; rw [hc]; rfl
    have H2 : Hid (lyE n L s q d = 0) := by unfold Hid lyE; rw [H.out]; rfl
    clear hc
    go_enter Try.func42, Try.ntmps42
    go_wp2_with fail
    refine (implValid_any A n c L s q _ HN.out (by exact HL) bs bq).mono ?_
    rintro e w1 ⟨rfl, B1⟩
    rw [HC.out]
    have hb := below_step hbl B1 rfl rfl rfl rfl
    clear B1 hbl
    go_wp2
    go_ret2
    exact ⟨by rw [H.out, H2.out]; rfl, hb⟩
  · have HC := hid hc
    have q3 := ge0_is d
    cases hp : ge0 d
    · rw [hp] at q3
      have H : Hid (lyOk n L s q d = false) := by unfold Hid lyOk; rw [hc, hp]; rfl
      have H2 : Hid (lyE n L s q d = 0) := by unfold Hid lyE; rw [H.out]; rfl
      clear hc hp
      go_enter Try.func42, Try.ntmps42
      go_wp2_with fail
      refine (implValid_any A n c L s q _ HN.out (by exact HL) bs bq).mono ?_
      rintro e w1 ⟨rfl, B1⟩
      rw [HC.out]
      have hb := below_step hbl B1 rfl rfl rfl rfl
      clear B1 hbl
      go_wp2
      go_ret2
      exact ⟨by rw [H.out, H2.out]; rfl, hb⟩
    · rw [hp] at q3
      have H : Hid (lyOk n L s q d = true) := by unfold Hid lyOk; rw [hc, hp]; rfl
      have H2 : Hid (lyE n L s q d = atV (depE L) d n) := by unfold Hid lyE; rw [H.out]; rfl
      clear hc hp
      go_enter Try.func42, Try.ntmps42
      go_wp2_with fail
      refine (implValid_any A n c L s q _ HN.out (by exact HL) bs bq).mono ?_
      rintro e w1 ⟨rfl, B1⟩
      rw [HC.out]
      have XG := XG.below B1
      have HL := HL.below B1
      have hb := below_step hbl B1 rfl rfl rfl rfl
      clear B1 hbl
      have XGa := XG.c0
      have XGb := XG.c1
      have XGc := XG.c2
      go_wp2_with fail
      refine (implDepths_any A n c L s q _ HN.out (by exact HL)).mono ?_
      rintro e w2 ⟨B, cap, rfl, HF, B2⟩
      have XG := XG.below (below_self B2 rfl rfl rfl rfl)
      have hb := below_step hb B2 rfl rfl rfl rfl
      clear B2 XGa XGb XGc
      have XGa := XG.c0
      clear XG HL
      go_wp2
      go_loop [19] (fun i => ∃ k : Nat, k ≤ n ∧ i = .int .i64 k ∧ Hid (∀ j, j < k → ltB d (depE L j) = false)) (fun i => n - (intOf i).toNat)
      case atStart => exact ⟨0, Nat.zero_le _, rfl, fun j hj => absurd hj (Nat.not_lt_zero _)⟩
      case round =>
        obtain ⟨k, hk, rfl, hall⟩ := hrel
        by_cases hlt : k < n
        · obtain ⟨a, x, rfl, c1, hx, bx⟩ := HF.out.at hlt
          have e1 := ltB_nz d hx
          clear hx bx
          have q1 := ltB_is d x
          cases hf : ltB d x
          · rw [hf] at q1
            have HT := hid (step_lt (E := depE L) hall.out (e1.symm.trans hf))
            clear hf e1
            go_wp2
            go_round
            case rel => exact ⟨k + 1, by omega, by go_num, HT⟩
            case measure => simp [intOf]; omega
          · rw [hf] at q1
            have HT := hid (atV_yes (E := depE L) n k hlt hall.out (e1.symm.trans hf))
            clear hf e1
            go_wp2
            go_ret2
            exact ⟨by rw [H.out, H2.out, HT.out]; rfl, hb⟩
        · obtain rfl : k = n := by omega
          have HT := hid (atV_no (E := depE L) k hall.out)
          go_wp2_with (go_at_call 81; refine (lengthL_any _ _ _ _).mono ?_; rintro e w1 ⟨rfl, rfl⟩)
          go_ret2
          exact ⟨by rw [H.out, H2.out, HT.out]; rfl, hb⟩
/-- The speed at a depth. -/
def spE (n : Nat) (L : Nat → Nat → Nat) (s q d : Nat) : Nat := if lyOk n L s q d then nz .f32 (spdV n L s (atV (depE L) d n)) else 0
set_option maxRecDepth 100000 in
theorem specSpeedAt_any (A : Option Addr) (n c : Nat) (L : Nat → Nat → Nat) (s q d : Nat) (w : World) (hn : n ≤ 1048576) (ha : LArg w A n L) (bs : s < 2 ^ 32) :
    Calls Try.prog 45 #[.agg #[.slice A n c, .float .f32 s, .float .f32 q], .float .f32 d] w (RetFBW .f32 (spE n L s q d) (lyOk n L s q d) w) := by
  have hbl := below_alloc1 w (.cells #[.slice A n c, .float .f32 s, .float .f32 q] 42)
  have XG := GBox.new w 42 A n c s q
  have HG := hid XG
  have HL := hid (ha.below hbl)
  have HN := hid hn
  have HK := hid (atV_le (E := depE L) (d := d) n)
  have HS := hid (spdV_lt ha HK.out bs)
  clear ha hn bs
  cases hc : validB n L s q
  · have HC := hid hc
    have H : Hid (lyOk n L s q d = false) := by unfold Hid lyOk; rw [hc]; rfl
    have H2 : Hid (spE n L s q d = 0) := by unfold Hid spE; rw [H.out]; rfl
    clear hc
    go_enter Try.func45, Try.ntmps45
    go_wp2_with (go_at_call 80; refine (specIs_any _ A n c L s q _ HN.out HG.out.c0 HG.out.c1 HG.out.c2 HL.out).mono ?_; rintro e w1 ⟨rfl, n1, rfl⟩; rw [HC.out])
    go_ret2
    exact ⟨0, by rw [H.out]; rfl, by rw [H2.out]; exact nz_num (nanB_fin (finW_zero .f32)), hid32 (by decide), below_drewN hbl _⟩
  · have HC := hid hc
    have q3 := ge0_is d
    cases hp : ge0 d
    · rw [hp] at q3
      have H : Hid (lyOk n L s q d = false) := by unfold Hid lyOk; rw [hc, hp]; rfl
      have H2 : Hid (spE n L s q d = 0) := by unfold Hid spE; rw [H.out]; rfl
      clear hc hp
      go_enter Try.func45, Try.ntmps45
      go_wp2_with (go_at_call 80; refine (specIs_any _ A n c L s q _ HN.out HG.out.c0 HG.out.c1 HG.out.c2 HL.out).mono ?_; rintro e w1 ⟨rfl, n1, rfl⟩; rw [HC.out])
      go_ret2
      exact ⟨0, by rw [H.out]; rfl, by rw [H2.out]; exact nz_num (nanB_fin (finW_zero .f32)), hid32 (by decide), below_drewN hbl _⟩
    · rw [hp] at q3
      have H : Hid (lyOk n L s q d = true) := by unfold Hid lyOk; rw [hc, hp]; rfl
      have H2 : Hid (spE n L s q d = nz .f32 (spdV n L s (atV (depE L) d n))) := by unfold Hid spE; rw [H.out]; rfl
      clear hc hp
      go_enter Try.func45, Try.ntmps45
      go_wp2_with (go_at_call 80; refine (specIs_any _ A n c L s q _ HN.out HG.out.c0 HG.out.c1 HG.out.c2 HL.out).mono ?_; rintro e w1 ⟨rfl, n1, rfl⟩; rw [HC.out])
      refine (specAt_any _ A n c L s q d _ HN.out (by exact ⟨HG.out.c0, HG.out.c1, HG.out.c2, HG.out.lt⟩) (by exact HL.out)).mono ?_
      rintro e w1 ⟨rfl, B1⟩
      have hb := below_step hbl B1 rfl rfl rfl rfl
      have HG1 := hid (HG.out.below (below_self B1 rfl rfl rfl rfl))
      have HL1 := hid (HL.out.below (below_self B1 rfl rfl rfl rfl))
      clear B1 hbl XG
      go_wp2_with fail
      refine (specSpeed_any _ A n c L s q _ _ HN.out HK.out HG1.out HL1.out).mono ?_
      rintro e w2 ⟨rfl, rfl⟩
      go_wp2
      go_ret2
      exact ⟨_, by rw [H.out]; rfl, by rw [H2.out]; rfl, HS, hb⟩
set_option maxRecDepth 100000 in
theorem implSpeedAt_any (A : Option Addr) (n c : Nat) (L : Nat → Nat → Nat) (s q d : Nat) (w : World) (hn : n ≤ 1048576) (ha : LArg w A n L) (bs : s < 2 ^ 32) (bq : q < 2 ^ 32) :
    Calls Try.prog 46 #[.agg #[.slice A n c, .float .f32 s, .float .f32 q], .float .f32 d] w (RetFBW .f32 (spE n L s q d) (lyOk n L s q d) w) := by
  have hbl := below_alloc1 w (.cells #[.slice A n c, .float .f32 s, .float .f32 q] 42)
  have XG := GBox.new w 42 A n c s q
  have HL := hid (ha.below hbl)
  have HN := hid hn
  have HK := hid (atV_le (E := depE L) (d := d) n)
  have HS := hid (spdV_lt ha HK.out bs)
  have HB := hid (And.intro bs bq)
  clear ha hn bs bq
  cases hc : lyOk n L s q d
  · have H := hid hc
    have H2 : Hid (spE n L s q d = 0) := by unfold Hid spE; rw [hc]; rfl
    clear hc
    go_enter Try.func46, Try.ntmps46
    go_wp2_with fail
    refine (implLayerAt_any A n c L s q d _ HN.out (by exact HL.out) HB.out.1 HB.out.2).mono ?_
    rintro e w1 ⟨rfl, B1⟩
    rw [H.out]
    have hb := below_step hbl B1 rfl rfl rfl rfl
    clear B1 hbl
    go_wp2
    go_ret2
    exact ⟨0, rfl, by rw [H2.out]; exact nz_num (nanB_fin (finW_zero .f32)), hid32 (by decide), hb⟩
  · have H := hid hc
    have H2 : Hid (spE n L s q d = nz .f32 (spdV n L s (atV (depE L) d n))) := by unfold Hid spE; rw [hc]; rfl
    have H3 : Hid (lyE n L s q d = atV (depE L) d n) := by unfold Hid lyE; rw [hc]; rfl
    clear hc
    go_enter Try.func46, Try.ntmps46
    go_wp2_with fail
    refine (implLayerAt_any A n c L s q d _ HN.out (by exact HL.out) HB.out.1 HB.out.2).mono ?_
    rintro e w1 ⟨rfl, B1⟩
    rw [H.out, H3.out]
    have hb := below_step hbl B1 rfl rfl rfl rfl
    have XG := XG.below (below_self B1 rfl rfl rfl rfl)
    have HL1 := hid (HL.out.below (below_self B1 rfl rfl rfl rfl))
    clear B1 hbl
    have XGa := XG.c0
    have XGb := XG.c1
    have XGc := XG.c2
    clear XG
    go_wp2_with fail
    refine (implSpeed_any A n c L s q _ _ HN.out HK.out (by exact HL1.out)).mono ?_
    rintro e w2 ⟨rfl, B2⟩
    have hb := below_step hb B2 rfl rfl rfl rfl
    clear B2 XGa XGb XGc
    go_wp2
    go_ret2
    exact ⟨_, rfl, by rw [H2.out]; rfl, HS, hb⟩
end Go.Proofs.Ytmomgaiondjinaa
