/- The walks of ReadList, of the program and of the reference. No condition. -/
import Derived.Test.YtlpjclglhjcghaaDoorLt
import Derived.Test.YtlpjclglhjcghaaDoorSp
import Derived.Test.YtlpjclglhjcghaaDoorSps
import Derived.Deep.Onto
import Derived.ArgAppend
namespace Go.Proofs.YtlpjclglhjcghaaDoor
open Go Go.RowKit Go.Lib

theorem calls_as {f : FuncId} {args : Array Value} {w : World} {v v' : Value} {B : World → Prop} (h : Calls Tryd.prog f args w fun e w' => e = .returned v ∧ B w') (hv : v = v') : Calls Tryd.prog f args w fun e w' => e = .returned v' ∧ B w' := hv ▸ h
theorem below_trans {a b c : World} (h : Below a.heap.size a b) (k : Below b.heap.size b c) : Below a.heap.size a c := h.trans (k.mono h.size)
/-- The numbers of a list with a text. -/
def rl (l : List UInt8) : Option (List Int) := if l = [110, 111, 110, 101] then some [] else if (parts l).length ≤ 64 then (parts l).mapM rdD else none
/-- A row of integers of the call's own. -/
def IO (w : World) (B : Nat) (v : Value) (l : List Int) : Prop := w.ownsRow B 2 1 v l.length (l.map (Value.int .i64))
theorem IO.nil (w : World) (B : Nat) : IO w B (.slice none 0 0) [] := World.ownsRow_nil w B _ 1
theorem IO.made (w : World) (B : Nat) (h : B ≤ w.heap.size) : IO (w.alloc (.cells #[] 2)) B (.slice (some ⟨w.heap.size, 0, none⟩) 0 0) [] := World.ownsRow_made w #[] 0 h (Nat.zero_le _) rfl
theorem SOwn.made (w : World) (B : Nat) (h : B ≤ w.heap.size) : SOwn (w.alloc (.cells #[] 9)) B (.slice (some ⟨w.heap.size, 0, none⟩) 0 0) [] := World.ownsRow_made w #[] 0 h (Nat.zero_le _) rfl
theorem IO.on {w w' : World} {B : Nat} {v : Value} {l : List Int} (h : IO w B v l) (hb : Below w.heap.size w w') : IO w' B v l := by
  refine ⟨h.1, ?_⟩
  rcases h.2 with ⟨e1, e2⟩ | ⟨g, cap, cur, e1, e2, e3, e4⟩
  · exact .inl ⟨e1, e2⟩
  · refine .inr ⟨g, cap, cur, e1, e2, ?_, e4⟩
    rw [hb.block g (Array.getElem?_eq_some_iff.1 e3).1]; exact e3
set_option maxRecDepth 100000 in
/-- THE WALK's LAW: an integer put behind a row of the call's own. -/
theorem wpList_iadd {w : World} {ops : Array Oper} {rest : List Oper} {o : Oper} {a : Act} {Q : Exit → Act → World → Prop} (hgd : o.guard = none) (s x : Operand)
    (ho : o.op = .call { callee := .builtin .append, args := #[s, x], argTypes := #[22, 22] })
    (B : Nat) (v : Value) (l : List Int) (b : Int) (hs : a.eval s = v) (hx : a.eval x = .slice (some ⟨w.heap.size, 0, none⟩) 1 1) (hl : IO w B v l) (hB : B ≤ w.heap.size) (hlen : l.length ≤ 1048576)
    (h : ∀ v' w', Hid (IO w' B v' (l ++ [b])) → (∀ B0 a0, B0 ≤ B → Below B0 a0 w → Below B0 a0 w') → wpList Tryd.prog ops Q rest (a.put o.dst v') w') : wpList Tryd.prog ops Q (o :: rest) a (w.alloc (.cells #[.int .i64 b] 2)) := by
  obtain ⟨i0, hi, hz0, hz1, hz2⟩ := info_parts info64
  refine wpList_append_own _ hgd s x 22 ho B 2 i0 (.int .i64 0) 1 8 Tryd.underlying22 hi hz0 hz1 hz2 rfl (by decide) v l.length (l.map (Value.int .i64)) hs (World.ownsRow.alloc hl _) ⟨w.heap.size, 0, none⟩ 1 1 [.int .i64 b] hx rfl (fun j u hu => ?_) (fun u hu => ?_) (by unfold maxLen; omega) (by omega) (Nat.le_trans hB (below_alloc1 w _).size) ?_
  · match j, hu with
    | 0, hu => 
      simp only [List.getElem?_cons_zero, Option.some.injEq] at hu
      subst hu
      rw [add_plain0]
      simp
    | j + 1, hu => simp at hu
  · rw [List.mem_singleton] at hu; subst hu; rfl
  · intro v' w' hown hgrow _
    have e : l.map (Value.int .i64) ++ [Value.int .i64 b] = (l ++ [b]).map (Value.int .i64) := by simp
    have e2 : l.length + 1 = (l ++ [b]).length := by simp
    rw [e, e2] at hown
    exact h v' w' hown (fun B0 a0 hB0 hb => (hb.alloc (Nat.le_trans hB0 hB) _).grown hgrow (Nat.le_trans hB0 (Nat.le_trans hB (below_alloc1 w _).size)) (fun k hk => Nat.le_trans hB0 (World.ownsRow.lt hl k hk).1))

set_option maxRecDepth 100000 in
/-- THE WALK's LAW: an integer put behind an empty row that has no room. -/
theorem wpList_ifirst {w : World} {ops : Array Oper} {rest : List Oper} {o : Oper} {a : Act} {Q : Exit → Act → World → Prop} (hgd : o.guard = none) (s x : Operand)
    (ho : o.op = .call { callee := .builtin .append, args := #[s, x], argTypes := #[22, 22] })
    (A : Option Addr) (b : Int) (hs : a.eval s = .slice A 0 0) (hx : a.eval x = .slice (some ⟨w.heap.size, 0, none⟩) 1 1)
    (h : ∀ v' w', (∀ B, B ≤ w.heap.size → Hid (IO w' B v' [b])) → (∀ B0 a0, B0 ≤ w.heap.size → Below B0 a0 w → Below B0 a0 w') → wpList Tryd.prog ops Q rest (a.put o.dst v') w') : wpList Tryd.prog ops Q (o :: rest) a (w.alloc (.cells #[.int .i64 b] 2)) := by
  obtain ⟨i0, hi, hz0, hz1, hz2⟩ := info_parts info64
  refine wpList_append_grows _ hgd s x 22 ho 2 i0 (.int .i64 0) 1 8 Tryd.underlying22 hi hz0 hz1 hz2 rfl (by decide) A 0 0 [] hs (fun _ => ⟨rfl, rfl⟩) rfl (fun b _ j u hu => by simp at hu) ⟨w.heap.size, 0, none⟩ 1 1 [.int .i64 b] hx rfl (fun j u hu => ?_) (fun u hu => ?_) (by decide) (by unfold maxLen; omega) (by omega) ?_
  · match j, hu with
    | 0, hu => 
      simp only [List.getElem?_cons_zero, Option.some.injEq] at hu
      subst hu
      rw [add_plain0]
      simp
    | j + 1, hu => simp at hu
  · rw [List.mem_singleton] at hu; subst hu; rfl
  · intro v' w' hown hgrow
    have hle := (below_alloc1 w (.cells #[.int .i64 b] 2)).size
    exact h v' w' (fun B hB => World.ownsRow.mono hown (Nat.le_trans hB hle)) (fun B0 a0 hB0 hb => (hb.alloc hB0 _).grown hgrow (Nat.le_trans hB0 hle) (fun k hk => by cases hk))

/-- A row of strings that is read. -/
def SArg (w : World) (A : Option Addr) (D : List ByteArray) : Prop := ∀ i (h : i < D.length), ∃ a : Addr, A = some a ∧ a.block < w.heap.size ∧ w.cell? (a.add i) = some (.string D[i])
theorem SArg.below {w w' : World} {A : Option Addr} {D : List ByteArray} (h : SArg w A D) (hb : Below w.heap.size w w') : SArg w' A D := fun i hi => by
  obtain ⟨a, e, hlt, hc⟩ := h i hi
  exact ⟨a, e, Nat.lt_of_lt_of_le hlt hb.size, (hb.cell (p := a.add i) (by rw [addb]; exact hlt)).trans hc⟩
theorem SOwn.arg {w : World} {B g c n : Nat} {D : List ByteArray} (hn : n = D.length) (h : SOwn w B (.slice (some ⟨g, 0, none⟩) n c) D) : SArg w (some ⟨g, 0, none⟩) D := fun i hi => by
  subst hn
  refine ⟨_, rfl, (World.ownsRow.lt h g rfl).2, ?_⟩
  rw [add_plain0, World.ownsRow.cellAt h i (by omega)]
  simp [hi]

set_option maxHeartbeats 1000000 in
set_option maxRecDepth 100000 in
theorem specCut (s : ByteArray) (w : World) (hs : s.size ≤ 1048576) :
    Calls Tryd.prog 63 #[.string s, .int .u8 44] w fun e w' => ∃ (A : Option Addr) (n c : Nat) (D : List ByteArray), e = .returned (.slice A n c) ∧ Hid (n = D.length) ∧ Hid (D.map (·.data.toList) = parts s.data.toList) ∧ Hid (SArg w' A D) ∧ Below w.heap.size w w' := by
  have hlen : s.data.toList.length = s.size := by simp
  have HO0 := Lib.hid (SOwn.made w w.heap.size (Nat.le_refl _))
  have hb0 := below_alloc1 w (.cells #[] 9)
  have HC0 : Hid (Cut s.data.toList (([] : List ByteArray).map (·.data.toList)) 0 0) := Cut.start _
  go_enter Tryd.func63, Tryd.ntmps63
  go_wp2
  go_loopw [5, 6, 7] (fun out fr i wr => ∃ (k f : Nat) (D : List ByteArray), k ≤ s.size + 1 ∧ i = .int .i64 k ∧ fr = .int .i64 f ∧ Hid (SOwn wr w.heap.size out D) ∧ D.length ≤ k ∧ Below w.heap.size w wr ∧ (k ≤ s.size → f ≤ k ∧ Hid (Cut s.data.toList (D.map (·.data.toList)) f k)) ∧ (s.size < k → Hid (D.map (·.data.toList) = parts s.data.toList))) (fun _ _ i _ => s.size + 1 - (RowKit.intOf i).toNat)
  case atStart => exact ⟨0, 0, [], Nat.zero_le _, rfl, rfl, HO0, Nat.le_refl _, hb0, fun _ => ⟨Nat.le_refl _, HC0⟩, fun h => absurd h (Nat.not_lt_zero _)⟩
  case round =>
    obtain ⟨k, f, D, hk, rfl, rfl, HO, hD, hB, hC, hE⟩ := hrel
    by_cases hle : k ≤ s.size
    · obtain ⟨hf, HC⟩ := hC hle
      clear hC hE
      by_cases hlt : k < s.size
      · by_cases hc : s[k] = 44
        · have e0 : ((k : Int) == (s.size : Int)) = false := by simp; omega
          have e1 : (((s[k]).toNat : Int) == 44) = true := by rw [hc]; rfl
          have HX := Lib.hid (HC.out.comma (by omega) (show s.data.toList[k]'(by omega) = 44 from hc))
          clear hc
          go_wp2_with (first | (at_builtin; refine wpList_sadd rfl (.tmp 26) (.tmp 31) rfl w.heap.size _ D _ rfl rfl HO.out hB.size (by omega) ?_; intro v' w3 HO3 hb3) | go_in)
          have HB3 := hb3 _ w (Nat.le_refl _) hB
          go_roundw
          case rel => exact ⟨k + 1, k + 1, _, by omega, by go_num, by go_num, HO3, by simp; omega, HB3, fun _ => ⟨Nat.le_refl _, by unfold Hid; rw [List.map_append, List.map_cons, List.map_nil, Lib.extract_data]; exact HX.out⟩, fun h => absurd h (by omega)⟩
          case measure => simp [RowKit.intOf]; omega
        · have e0 : ((k : Int) == (s.size : Int)) = false := by simp; omega
          have e1 : (((s[k]).toNat : Int) == 44) = false := by rw [beq_eq_false_iff_ne]; intro h; exact hc (UInt8.toNat.inj (Int.ofNat.inj h))
          have HX := Lib.hid (HC.out.other (by omega) (show s.data.toList[k]'(by omega) ≠ 44 from hc))
          clear hc
          go_wp2
          go_roundw
          case rel => exact ⟨k + 1, f, D, by omega, by go_num, rfl, HO, by omega, hB, fun _ => ⟨by omega, HX⟩, fun h => absurd h (by omega)⟩
          case measure => simp [RowKit.intOf]; omega
      · obtain rfl : k = s.size := by omega
        have e0 : ((s.size : Int) == (s.size : Int)) = true := by simp
        have HX := HC.out
        rw [← hlen] at HX
        have HX2 := Lib.hid HX.last
        clear HX
        go_wp2_with (first | (at_builtin; refine wpList_sadd rfl (.tmp 26) (.tmp 31) rfl w.heap.size _ D _ rfl rfl HO.out hB.size (by omega) ?_; intro v' w3 HO3 hb3) | go_in)
        have HB3 := hb3 _ w (Nat.le_refl _) hB
        go_roundw
        case rel => exact ⟨s.size + 1, s.size + 1, _, by omega, by go_num, by go_num, HO3, by simp; omega, HB3, fun h => absurd h (by omega), fun _ => by unfold Hid; rw [List.map_append, List.map_cons, List.map_nil, Lib.extract_data, HX2.out, hlen]⟩
        case measure => simp [RowKit.intOf]
    · have HE := hE (by omega)
      clear hC hE
      have h0 : decide ((k : Int) ≤ (s.size : Int)) = false := decide_eq_false (by omega)
      have hne : D ≠ [] := fun h => by have := HE.out; rw [h] at this; exact parts_ne _ this.symm
      have hpos : 0 < D.length := List.length_pos_iff.2 hne
      obtain ⟨g, c, hv, hg1, hg2⟩ := World.ownsRow.form HO.out hpos
      obtain ⟨n, hn⟩ : ∃ n, n = D.length := ⟨_, rfl⟩
      have HN := Lib.hid hn
      have HO2 := HO.out
      rw [← hn] at hv
      subst hv
      go_wp2
      go_ret
      exact ⟨_, n, c, D, rfl, HN, HE, SOwn.arg HN.out HO2, hB⟩

theorem IO.shape {w : World} {B : Nat} {v : Value} {l : List Int} (h : IO w B v l) : ∃ A c, v = .slice A l.length c := by
  rcases h.2 with ⟨e1, e2⟩ | ⟨g, cap, cur, e1, _⟩
  · exact ⟨none, 0, by rw [e1, e2]⟩
  · exact ⟨_, _, e1⟩
theorem mapM_take {f : List UInt8 → Option Int} {P : List (List UInt8)} {k : Nat} {L : List Int} {p : List UInt8} {x : Int} (h : (P.take k).mapM f = some L) (hp : P[k]? = some p) (hx : f p = some x) : (P.take (k + 1)).mapM f = some (L ++ [x]) := by
  rw [List.take_add_one, hp, List.mapM_append, h]
  simp [hx]
theorem mapM_none {f : List UInt8 → Option Int} : ∀ {P : List (List UInt8)} {k : Nat} {p : List UInt8}, P[k]? = some p → f p = none → P.mapM f = none
  | [], k, p, h, _ => by simp at h
  | a :: P, 0, p, h, hf => by
    simp only [List.getElem?_cons_zero, Option.some.injEq] at h
    subst h
    rw [List.mapM_cons, hf]; rfl
  | a :: P, k + 1, p, h, hf => by
    rw [List.getElem?_cons_succ] at h
    rw [List.mapM_cons, mapM_none h hf]
    cases f a <;> rfl
theorem part_at {D : List ByteArray} {P : List (List UInt8)} (h : D.map (·.data.toList) = P) {k : Nat} (hk : k < D.length) : P[k]? = some (D[k].data.toList) := by
  rw [← h, List.getElem?_map, List.getElem?_eq_getElem hk]; rfl
theorem rl_none {l : List UInt8} (h : l ≠ [110, 111, 110, 101]) {k : Nat} {p : List UInt8} (hp : (parts l)[k]? = some p) (hf : rdD p = none) : rl l = none := by
  unfold rl
  rw [if_neg h, mapM_none hp hf]
  split <;> rfl
theorem rl_long {l : List UInt8} (h : l ≠ [110, 111, 110, 101]) (hp : 64 < (parts l).length) : rl l = none := by
  unfold rl
  rw [if_neg h, if_neg (by omega)]
theorem rl_some {l : List UInt8} (h : l ≠ [110, 111, 110, 101]) {n : Nat} (hn : n = (parts l).length) (hp : n ≤ 64) {L : List Int} (hL : ((parts l).take n).mapM rdD = some L) : rl l = some L := by
  unfold rl
  rw [if_neg h, if_pos (by omega)]
  rwa [List.take_of_length_le (by omega)] at hL
theorem parts_le : ∀ (l p : List UInt8), p ∈ parts l → p.length ≤ l.length
  | [], p, h => by simp [parts] at h; simp [h]
  | c :: l, p, h => by
    unfold parts at h
    split at h
    · rcases List.mem_cons.1 h with rfl | h
      · simp
      · have := parts_le l p h; simp; omega
    · have ih := parts_le l
      cases hp : parts l with
      | nil => rw [hp] at h; simp [ahead] at h; simp [h]
      | cons q qs =>
        rw [hp] at h ih
        simp only [ahead] at h
        rcases List.mem_cons.1 h with rfl | h
        · have := ih q (by simp); simp; omega
        · have := ih p (by simp [h]); simp; omega
/-- What ReadList returns. -/
def RetL (o : Option (List Int)) (w : World) (e : Ending) (w' : World) : Prop := ∃ v, e = .returned (.tuple #[v, .bool o.isSome]) ∧ Hid (IO w' w.heap.size v (o.getD [])) ∧ Below w.heap.size w w'

set_option maxHeartbeats 1000000 in
set_option maxRecDepth 100000 in
theorem specNumbers (s : ByteArray) (w : World) (hs : s.size ≤ 1048576) :
    Calls Tryd.prog 38 #[.string s] w (RetL (rl s.data.toList) w) := by
  have HO0 := Lib.hid (IO.made w w.heap.size (Nat.le_refl _))
  have hb0 := below_alloc1 w (.cells #[] 2)
  by_cases hno : s.data.toList = [110, 111, 110, 101]
  · have HR : Hid (rl s.data.toList = some []) := by unfold Hid rl; rw [if_pos hno]
    have e1 : (s.toList == [110, 111, 110, 101]) = true := by rw [Lib.toList_data, hno]; rfl
    clear hno
    go_enter Tryd.func38, Tryd.ntmps38
    go_wp2
    go_ret2
    rw [HR.out]
    exact ⟨_, rfl, HO0, hb0⟩
  · have HNO := Lib.hid hno
    have e1 : (s.toList == [110, 111, 110, 101]) = false := by rw [Lib.toList_data]; simpa using hno
    clear hno
    by_cases hlen : (parts s.data.toList).length ≤ 64
    · have HL := Lib.hid hlen
      clear hlen
      go_enter Tryd.func38, Tryd.ntmps38
      have HM0 : Hid (((parts s.data.toList).take 0).mapM rdD = some []) := rfl
      go_wp2_with (first | (go_at_call 63; refine (specCut s _ hs).mono ?_; rintro e w1 ⟨A, n, c, D, rfl, HN, HP, HS, B1⟩; have HNP := Lib.hid (show n = (parts s.data.toList).length by rw [HN.out, ← HP.out, List.length_map]); have hn64 : (n : Int) ≤ 64 := (by have h1 := HNP.out; have h2 := HL.out; omega)) | go_in)
      have HB1 := below_trans hb0 B1
      go_loopw [4, 6] (fun out i wr => ∃ (k : Nat) (L : List Int), k ≤ n ∧ i = .int .i64 k ∧ (k = 0 → out = .slice (some ⟨w.heap.size, 0, none⟩) 0 0) ∧ (0 < k → Hid (IO wr w1.heap.size out L)) ∧ L.length = k ∧ Hid (((parts s.data.toList).take k).mapM rdD = some L) ∧ Below w.heap.size w wr ∧ Below w1.heap.size w1 wr) (fun _ i _ => n - (RowKit.intOf i).toNat)
      case atStart => exact ⟨0, [], Nat.zero_le _, rfl, fun _ => rfl, fun h => absurd h (Nat.lt_irrefl _), rfl, HM0, HB1, Below.refl _ _⟩
      case round =>
        obtain ⟨k, L, hk, rfl, hO0, hO, hL, HM, hB, hB1⟩ := hrel
        by_cases hlt : k < n
        · have hkD : k < D.length := by rw [← HN.out]; exact hlt
          obtain ⟨a, rfl, hab, c1⟩ := HS.out k hkD
          have c2 : wr.cell? (a.add k) = some (.string D[k]) := (hB1.cell (p := a.add k) (by rw [addb]; exact hab)).trans c1
          have HPt := Lib.hid (part_at HP.out hkD)
          obtain ⟨d, hd⟩ : ∃ d, D[k] = d := ⟨_, rfl⟩
          rw [hd] at c2
          have HPd : Hid ((parts s.data.toList)[k]? = some d.data.toList) := by unfold Hid; rw [HPt.out, hd]
          clear c1 hd HPt
          cases hr : rdD d.data.toList with
          | none =>
            have HR := Lib.hid (rl_none HNO.out HPd.out hr)
            go_wp2_with (first | (go_at_call 61; refine (calls_as (specValue d _) (resI_none hr)).mono ?_; rintro e w2 ⟨rfl, B2⟩) | go_in)
            go_ret2
            rw [HR.out]
            exact ⟨_, rfl, IO.nil _ _, hB.trans (B2.mono hB.size)⟩
          | some x =>
            have HM2 := Lib.hid (mapM_take HM.out HPd.out hr)
            rcases Nat.eq_zero_or_pos k with h0 | h0
            · subst h0
              obtain rfl := List.length_eq_zero_iff.1 hL
              obtain rfl := hO0 rfl
              rw [show a.add 0 = a from by unfold Addr.add; simp] at c2
              clear hO0 hO
              go_wp2_with (first | (go_at_call 61; refine (calls_as (specValue d _) (resI_some hr)).mono ?_; rintro e w2 ⟨rfl, B2⟩) | (at_builtin; refine wpList_ifirst rfl (.tmp 34) (.tmp 36) rfl _ _ rfl rfl ?_; intro v' w3 HO3 hb3) | go_in)
              have HB3 := hb3 _ w (Nat.le_trans hB.size B2.size) (hB.trans (B2.mono hB.size))
              have HB4 := hb3 _ w1 (Nat.le_trans hB1.size B2.size) (hB1.trans (B2.mono hB1.size))
              have HO4 := HO3 w1.heap.size (Nat.le_trans hB1.size B2.size)
              go_roundw
              case rel => exact ⟨1, [x], by omega, by go_num, fun h => by omega, fun _ => HO4, rfl, HM2, HB3, HB4⟩
              case measure => simp [RowKit.intOf]; omega
            · have HO := hO h0
              clear hO0 hO
              go_wp2_with (first | (go_at_call 61; refine (calls_as (specValue d _) (resI_some hr)).mono ?_; rintro e w2 ⟨rfl, B2⟩; have HO2 := Lib.hid (IO.on HO.out B2)) | (at_builtin; refine wpList_iadd rfl (.tmp 34) (.tmp 36) rfl w1.heap.size _ L _ rfl rfl HO2.out (Nat.le_trans hB1.size B2.size) (by omega) ?_; intro v' w3 HO3 hb3) | go_in)
              have HB3 := hb3 _ w HB1.size (hB.trans (B2.mono hB.size))
              have HB4 := hb3 _ w1 (Nat.le_refl _) (hB1.trans (B2.mono hB1.size))
              go_roundw
              case rel => exact ⟨k + 1, L ++ [x], by omega, by go_num, fun h => by omega, fun _ => HO3, by simp; omega, HM2, HB3, HB4⟩
              case measure => simp [RowKit.intOf]; omega
        · obtain rfl : k = n := by omega
          have HR := Lib.hid (rl_some HNO.out HNP.out (by have h1 := HNP.out; have h2 := HL.out; omega) HM.out)
          have hpos : 0 < k := by
            have := HNP.out
            have := List.length_pos_iff.2 (parts_ne s.data.toList)
            omega
          have HO := hO hpos
          clear hO0 hO
          go_wp2
          go_ret2
          rw [HR.out]
          exact ⟨_, rfl, World.ownsRow.mono HO.out HB1.size, hB⟩
    · have HL : Hid (64 < (parts s.data.toList).length) := Nat.lt_of_not_le hlen
      have HR := Lib.hid (rl_long HNO.out HL.out)
      clear hlen
      go_enter Tryd.func38, Tryd.ntmps38
      go_wp2_with (first | (go_at_call 63; refine (specCut s _ hs).mono ?_; rintro e w1 ⟨A, n, c, D, rfl, HN, HP, HS, B1⟩; have hn64 : 64 < (n : Int) := (by have h1 : n = (parts s.data.toList).length := (by rw [HN.out, ← HP.out, List.length_map]); have h2 := HL.out; omega)) | go_in)
      go_ret2
      rw [HR.out]
      exact ⟨_, rfl, IO.nil _ _, below_trans hb0 B1⟩

/-- What ReadList needs of the world. -/
structure Full (w : World) : Prop where
  errs : Errs w
  big : ∃ m, w.cell? ⟨6, 0, none⟩ = some (.int .i64 m)
theorem Full.on {w w' : World} (h : Full w) (hb : Below w.heap.size w w') : Full w' :=
  ⟨h.errs.on hb, by obtain ⟨m, hm⟩ := h.big; exact ⟨m, (hb.cell (p := ⟨6, 0, none⟩) (lt_of_cell hm)).trans hm⟩⟩
theorem implCut (s : ByteArray) (w : World) (hs : s.size ≤ 1048576) (hF : Full w) :
    Calls Tryd.prog 64 #[.string s, .string ⟨#[44]⟩] w fun e w' => ∃ (A : Option Addr) (n c : Nat) (D : List ByteArray), e = .returned (.slice A n c) ∧ Hid (n = D.length) ∧ Hid (D.map (·.data.toList) = parts s.data.toList) ∧ Hid (SArg w' A D) ∧ Below w.heap.size w w' := by
  obtain ⟨m, hm⟩ := hF.big
  refine (Tryd.strings_Split s ⟨#[44]⟩ m w (by omega) hm (by decide)).mono ?_
  rintro e w' ⟨rfl, rfl⟩
  have hP := splitB_parts s
  have hN : (splitB ⟨#[44]⟩ 0 (countB s ⟨#[44]⟩) s).length = countB s ⟨#[44]⟩ + 1 := by rw [← parts_len s, ← hP, List.length_map]
  refine ⟨_, _, _, splitB ⟨#[44]⟩ 0 (countB s ⟨#[44]⟩) s, rfl, hN.symm, hP, fun i hi => ⟨_, rfl, by simp, ?_⟩, below_alloc1 w _⟩
  rw [add_plain0]
  simp [hi]

set_option maxHeartbeats 1000000 in
set_option maxRecDepth 100000 in
theorem implTexts (s : ByteArray) (w : World) (hs : s.size ≤ 1048576) (hF : Full w) :
    Calls Tryd.prog 39 #[.string s, .int .i64 64, .func (.func 37) #[] #[]] w (RetL (rl s.data.toList) w) := by
  have HF := Lib.hid hF
  clear hF
  by_cases hno : s.data.toList = [110, 111, 110, 101]
  · have HR : Hid (rl s.data.toList = some []) := by unfold Hid rl; rw [if_pos hno]
    have e1 : (s.toList == [110, 111, 110, 101]) = true := by rw [Lib.toList_data, hno]; rfl
    clear hno
    go_enter Tryd.func39, Tryd.ntmps39
    go_wp2
    go_ret2
    rw [HR.out]
    exact ⟨_, rfl, IO.nil _ _, Below.refl _ _⟩
  · have HNO := Lib.hid hno
    have e1 : (s.toList == [110, 111, 110, 101]) = false := by rw [Lib.toList_data]; simpa using hno
    clear hno
    have HM0 : Hid (((parts s.data.toList).take 0).mapM rdD = some []) := rfl
    go_enter Tryd.func39, Tryd.ntmps39
    go_wp2_with (first | (go_at_call 64; refine (implCut s _ hs HF.out).mono ?_; rintro e w1 ⟨A, n, c, D, rfl, HN, HP, HS, B1⟩; have HNP := Lib.hid (show n = (parts s.data.toList).length by rw [HN.out, ← HP.out, List.length_map])) | go_in)
    have HF1 := Lib.hid (HF.out.on B1)
    go_loopw [8, 18] (fun out i wr => ∃ (k : Nat) (L : List Int) (O : Option Addr) (oc : Nat), k ≤ n ∧ k ≤ 64 ∧ i = .int .i64 k ∧ out = .slice O k oc ∧ Hid (IO wr w1.heap.size (.slice O k oc) L) ∧ L.length = k ∧ Hid (((parts s.data.toList).take k).mapM rdD = some L) ∧ Below w.heap.size w wr ∧ Below w1.heap.size w1 wr) (fun _ i _ => n - (RowKit.intOf i).toNat)
    case atStart => exact ⟨0, [], none, 0, Nat.zero_le _, Nat.zero_le _, rfl, rfl, IO.nil _ _, rfl, HM0, B1, Below.refl _ _⟩
    case round =>
      obtain ⟨k, L, O, oc, hk, hk64, rfl, rfl, HO, hL, HM, hB, hB1⟩ := hrel
      by_cases hlt : k < n
      · have hkD : k < D.length := by rw [← HN.out]; exact hlt
        obtain ⟨a, rfl, hab, c1⟩ := HS.out k hkD
        have c2 : wr.cell? (a.add k) = some (.string D[k]) := (hB1.cell (p := a.add k) (by rw [addb]; exact hab)).trans c1
        have HPt := Lib.hid (part_at HP.out hkD)
        obtain ⟨d, hd⟩ : ∃ d, D[k] = d := ⟨_, rfl⟩
        rw [hd] at c2
        have HPd : Hid ((parts s.data.toList)[k]? = some d.data.toList) := by unfold Hid; rw [HPt.out, hd]
        have hds : Hid (d.size ≤ 281474976710656) := by
          have h1 := parts_le s.data.toList _ (List.mem_of_getElem? HPd.out)
          have h2 : d.data.toList.length = d.size := by simp
          have h3 : s.data.toList.length = s.size := by simp
          unfold Hid; omega
        clear c1 hd HPt
        cases hr : rdD d.data.toList with
        | none =>
          have HR := Lib.hid (rl_none HNO.out HPd.out hr)
          go_wp2_with (first | (go_at_call 37; refine (calls_as (implReadDecimal d _ hds.out (HF1.out.on hB1).errs) (resI_none hr)).mono ?_; rintro e w2 ⟨rfl, B2⟩) | go_in)
          go_ret2
          rw [HR.out]
          exact ⟨_, rfl, IO.nil _ _, hB.trans (B2.mono hB.size)⟩
        | some x =>
          have HM2 := Lib.hid (mapM_take HM.out HPd.out hr)
          by_cases h64 : k = 64
          · have e2 : ((k : Int) == 64) = true := by subst h64; rfl
            have HR := Lib.hid (rl_long HNO.out (by have := HNP.out; omega))
            clear h64
            go_wp2_with (first | (go_at_call 37; refine (calls_as (implReadDecimal d _ hds.out (HF1.out.on hB1).errs) (resI_some hr)).mono ?_; rintro e w2 ⟨rfl, B2⟩) | go_in)
            go_ret2
            rw [HR.out]
            exact ⟨_, rfl, IO.nil _ _, hB.trans (B2.mono hB.size)⟩
          · have e2 : ((k : Int) == 64) = false := by simp; omega
            go_wp2_with (first | (go_at_call 37; refine (calls_as (implReadDecimal d _ hds.out (HF1.out.on hB1).errs) (resI_some hr)).mono ?_; rintro e w2 ⟨rfl, B2⟩; have HO2 := Lib.hid (IO.on HO.out B2)) | (at_builtin; refine wpList_iadd rfl (.tmp 36) (.tmp 38) rfl w1.heap.size _ L _ rfl rfl HO2.out (Nat.le_trans hB1.size B2.size) (by omega) ?_; intro v' w3 HO3 hb3) | go_in)
            have HB3 := hb3 _ w B1.size (hB.trans (B2.mono hB.size))
            have HB4 := hb3 _ w1 (Nat.le_refl _) (hB1.trans (B2.mono hB1.size))
            obtain ⟨O', oc', hv⟩ := IO.shape HO3.out
            have hln : (L ++ [x]).length = k + 1 := by simp [hL]
            rw [hln] at hv
            subst hv
            go_roundw
            case rel => exact ⟨k + 1, L ++ [x], O', oc', by omega, by omega, by go_num, rfl, HO3, hln, HM2, HB3, HB4⟩
            case measure => simp [RowKit.intOf]; omega
      · obtain rfl : k = n := by omega
        have HR := Lib.hid (rl_some HNO.out HNP.out hk64 HM.out)
        go_wp2
        go_ret2
        rw [HR.out]
        exact ⟨_, rfl, World.ownsRow.mono HO.out B1.size, hB⟩
end Go.Proofs.YtlpjclglhjcghaaDoor
