/- A text cut at its commas: the plain law. No program. No condition. -/
import Derived.Lib.SplitLaws
namespace Go.Proofs.YtlpjclglhjcghaaDoor
open Go Go.Lib

/-- p ahead of the first part. -/
def ahead (p : List UInt8) : List (List UInt8) → List (List UInt8)
  | [] => [p]
  | q :: qs => (p ++ q) :: qs
/-- The parts of a text between commas. -/
def parts : List UInt8 → List (List UInt8)
  | [] => [[]]
  | c :: l => if c = 44 then [] :: parts l else ahead [c] (parts l)
theorem ahead_ne (p : List UInt8) (l : List (List UInt8)) : ahead p l ≠ [] := by cases l <;> simp [ahead]
theorem parts_ne (l : List UInt8) : parts l ≠ [] := by
  cases l with
  | nil => simp [parts]
  | cons c l => unfold parts; split <;> simp [ahead_ne]
theorem ahead_nil {l : List (List UInt8)} (h : l ≠ []) : ahead [] l = l := by cases l with | nil => exact absurd rfl h | cons a t => rfl
theorem ahead_ahead (p q : List UInt8) {l : List (List UInt8)} (h : l ≠ []) : ahead p (ahead q l) = ahead (p ++ q) l := by cases l with | nil => exact absurd rfl h | cons a t => simp [ahead]
theorem index_comma (l : List UInt8) : index (44 :: l) [44] = ((0 : Nat) : Int) := by rw [index]; simp [List.isPrefixOf]
theorem index_other {c : UInt8} (l : List UInt8) (h : c ≠ 44) : index (c :: l) [44] = if index l [44] == -1 then -1 else index l [44] + 1 := by
  have hp : ([44] : List UInt8).isPrefixOf (c :: l) = false := by simp [List.isPrefixOf, Ne.symm h]
  rw [index, hp]; simp
theorem split_parts : ∀ l : List UInt8, splitK [44] 0 (count l [44]) l = parts l
  | [] => by rw [count_one]; rfl
  | c :: l => by
    have ih := split_parts l
    by_cases h : c = 44
    · subst h
      rw [count_cons_eq, Nat.add_comm]
      unfold splitK parts
      have hx := index_comma l
      rw [if_neg (by rw [hx]; decide), if_pos rfl, hx, ← ih]
      simp
    · rw [count_cons_ne c 44 l h]
      unfold parts
      rw [if_neg h, ← ih]
      cases hk : count l [44] with
      | zero => rfl
      | succ k =>
        have hm : index l [44] ≠ -1 := fun e => by rw [count_miss e] at hk; cases hk
        have hge := index_ge l [44]
        obtain ⟨j, hj⟩ : ∃ j : Nat, index l [44] = j := ⟨(index l [44]).toNat, by omega⟩
        have hx : index (c :: l) [44] = ((j + 1 : Nat) : Int) := by rw [index_other l h, if_neg (fun e => hm (beq_iff_eq.1 e)), hj]; omega
        unfold splitK
        rw [if_neg (by rw [hx]; intro e; have := beq_iff_eq.1 e; omega), if_neg (by rw [hj]; intro e; have := beq_iff_eq.1 e; omega), hx, hj]
        simp [ahead]
theorem splitB_parts (s : ByteArray) : (splitB ⟨#[44]⟩ 0 (countB s ⟨#[44]⟩) s).map (·.data.toList) = parts s.data.toList := by
  rw [splitB_data]
  exact split_parts _
theorem parts_len (s : ByteArray) : (parts s.data.toList).length = countB s ⟨#[44]⟩ + 1 := by
  rw [← splitB_parts, List.length_map, splitB_all ⟨#[44]⟩ (by decide) 0 _ s rfl]
/-- Where the reference's cut stands: i bytes read, the last part begins at f. -/
def Cut (l : List UInt8) (D : List (List UInt8)) (f i : Nat) : Prop := f ≤ i ∧ parts l = D ++ ahead ((l.drop f).take (i - f)) (parts (l.drop i))
theorem Cut.start (l : List UInt8) : Cut l [] 0 0 := ⟨Nat.le_refl _, by simp [ahead_nil (parts_ne l)]⟩
theorem take_grow (l : List UInt8) {f i : Nat} (hf : f ≤ i) (h : i < l.length) : (l.drop f).take (i + 1 - f) = (l.drop f).take (i - f) ++ [l[i]] := by
  rw [show i + 1 - f = (i - f) + 1 by omega, List.take_succ_eq_append_getElem (by rw [List.length_drop]; omega)]
  congr 2
  rw [List.getElem_drop]; congr 1; omega
theorem Cut.comma {l : List UInt8} {D : List (List UInt8)} {f i : Nat} (h : Cut l D f i) (hi : i < l.length) (hc : l[i] = 44) : Cut l (D ++ [(l.drop f).take (i - f)]) (i + 1) (i + 1) := by
  refine ⟨Nat.le_refl _, ?_⟩
  have e : ∀ r, parts (44 :: r) = [] :: parts r := fun r => by rw [parts, if_pos rfl]
  rw [h.2, List.drop_eq_getElem_cons hi, hc, e, Nat.sub_self, List.take_zero, ahead_nil (parts_ne _)]
  simp [ahead]
theorem Cut.other {l : List UInt8} {D : List (List UInt8)} {f i : Nat} (h : Cut l D f i) (hi : i < l.length) (hc : l[i] ≠ 44) : Cut l D f (i + 1) := by
  refine ⟨Nat.le_succ_of_le h.1, ?_⟩
  rw [h.2, List.drop_eq_getElem_cons hi, show parts (l[i] :: l.drop (i + 1)) = ahead [l[i]] (parts (l.drop (i + 1))) from by rw [parts, if_neg hc], ahead_ahead _ _ (parts_ne _), ← take_grow l h.1 hi]
theorem Cut.last {l : List UInt8} {D : List (List UInt8)} {f : Nat} (h : Cut l D f l.length) : parts l = D ++ [(l.drop f).take (l.length - f)] := by
  rw [h.2, List.drop_length]; simp [parts, ahead]
end Go.Proofs.YtlpjclglhjcghaaDoor
