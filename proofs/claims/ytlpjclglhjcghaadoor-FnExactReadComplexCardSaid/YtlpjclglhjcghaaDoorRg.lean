/- Lists read from texts: the plain law, whatever reads the elements. No program. No condition. -/
import Derived.Test.YtlpjclglhjcghaaDoorSp
namespace Go.Proofs.YtlpjclglhjcghaaDoor
open Go Go.Lib

section
variable {α : Type}
/-- The elements of a list with a text. -/
def rlG (f : List UInt8 → Option α) (m : Nat) (l : List UInt8) : Option (List α) := if l = [110, 111, 110, 101] then some [] else if (parts l).length ≤ m then (parts l).mapM f else none
theorem mapG_take {f : List UInt8 → Option α} {P : List (List UInt8)} {k : Nat} {L : List α} {p : List UInt8} {x : α} (h : (P.take k).mapM f = some L) (hp : P[k]? = some p) (hx : f p = some x) : (P.take (k + 1)).mapM f = some (L ++ [x]) := by
  rw [List.take_add_one, hp, List.mapM_append, h]
  simp [hx]
theorem mapG_none {f : List UInt8 → Option α} : ∀ {P : List (List UInt8)} {k : Nat} {p : List UInt8}, P[k]? = some p → f p = none → P.mapM f = none
  | [], k, p, h, _ => by simp at h
  | a :: P, 0, p, h, hf => by
    simp only [List.getElem?_cons_zero, Option.some.injEq] at h
    subst h
    rw [List.mapM_cons, hf]; rfl
  | a :: P, k + 1, p, h, hf => by
    rw [List.getElem?_cons_succ] at h
    rw [List.mapM_cons, mapG_none h hf]
    cases f a <;> rfl
theorem rlG_no (f : List UInt8 → Option α) (m : Nat) {l : List UInt8} (h : l = [110, 111, 110, 101]) : rlG f m l = some [] := if_pos h
theorem rlG_none {f : List UInt8 → Option α} {m : Nat} {l : List UInt8} (h : l ≠ [110, 111, 110, 101]) {k : Nat} {p : List UInt8} (hp : (parts l)[k]? = some p) (hf : f p = none) : rlG f m l = none := by
  unfold rlG
  rw [if_neg h, mapG_none hp hf]
  split <;> rfl
theorem rlG_long {f : List UInt8 → Option α} {m : Nat} {l : List UInt8} (h : l ≠ [110, 111, 110, 101]) (hp : m < (parts l).length) : rlG f m l = none := by
  unfold rlG
  rw [if_neg h, if_neg (by omega)]
theorem rlG_some {f : List UInt8 → Option α} {m : Nat} {l : List UInt8} (h : l ≠ [110, 111, 110, 101]) {n : Nat} (hn : n = (parts l).length) (hp : n ≤ m) {L : List α} (hL : ((parts l).take n).mapM f = some L) : rlG f m l = some L := by
  unfold rlG
  rw [if_neg h, if_pos (by omega)]
  rwa [List.take_of_length_le (by omega)] at hL
theorem mapG_all {f : List UInt8 → Option α} {Q : α → Prop} (hQ : ∀ p x, f p = some x → Q x) : ∀ (P : List (List UInt8)) (L : List α), P.mapM f = some L → ∀ x ∈ L, Q x
  | [], L, h, x, hx => by
    simp at h; subst h; cases hx
  | p :: P, L, h, x, hx => by
    rw [List.mapM_cons] at h
    cases hp : f p with
    | none => rw [hp] at h; cases h
    | some y =>
      cases hP : P.mapM f with
      | none => rw [hp, hP] at h; cases h
      | some M =>
        rw [hp, hP] at h
        injection h with h
        subst h
        rcases List.mem_cons.1 hx with rfl | hx
        · exact hQ _ _ hp
        · exact mapG_all hQ P M hP x hx
theorem mapG_len {f : List UInt8 → Option α} : ∀ (P : List (List UInt8)) (L : List α), P.mapM f = some L → L.length = P.length
  | [], L, h => by simp at h; subst h; rfl
  | p :: P, L, h => by
    rw [List.mapM_cons] at h
    cases hp : f p with
    | none => rw [hp] at h; cases h
    | some y =>
      cases hP : P.mapM f with
      | none => rw [hp, hP] at h; cases h
      | some M =>
        rw [hp, hP] at h
        injection h with h
        subst h
        simp [mapG_len P M hP]
theorem rlG_all {f : List UInt8 → Option α} {Q : α → Prop} (hQ : ∀ p x, f p = some x → Q x) (m : Nat) (l : List UInt8) : (∀ x ∈ (rlG f m l).getD [], Q x) ∧ ((rlG f m l).getD []).length ≤ m := by
  unfold rlG
  split
  · exact ⟨fun x hx => (by cases hx), by simp⟩
  · split
    · rename_i hm
      cases h : (parts l).mapM f with
      | none => exact ⟨fun x hx => (by cases hx), by simp⟩
      | some L =>
        refine ⟨mapG_all hQ _ _ h, ?_⟩
        have := mapG_len _ _ h
        show L.length ≤ m
        omega
    · exact ⟨fun x hx => (by cases hx), by simp⟩
end
end Go.Proofs.YtlpjclglhjcghaaDoor
