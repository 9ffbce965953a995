/- Lists as texts: the elements' texts with commas between them. No condition. -/
import Derived.Test.YtlpjclglhjcghaaDoorRd
import Derived.Test.YtlpjclglhjcghaaDoorIl
import Derived.Test.YtlpjclglhjcghaaDoorSj
import Derived.Lib.Join
import Derived.Deep.AppendLies
import Derived.Laws.Concat
namespace Go.Proofs.YtlpjclglhjcghaaDoor
open Go Go.RowKit Go.Lib

theorem join_snoc (xs : List (List UInt8)) (hx : xs ≠ []) (y sep : List UInt8) : Lib.join (xs ++ [y]) sep = Lib.join xs sep ++ (sep ++ y) := by
  obtain ⟨a, t, rfl⟩ := List.exists_cons_of_ne_nil hx
  rw [List.cons_append, join_cons, join_cons]
  unfold joinTail
  simp [List.append_assoc]
/-- The first k texts with commas between them. -/
def jt (T : Nat → List UInt8) (k : Nat) : List UInt8 := Lib.join ((List.range k).map T) [44]
theorem jt_one (T : Nat → List UInt8) : jt T 1 = T 0 := by unfold jt; simp [List.range_succ, join_one]
theorem jt_succ (T : Nat → List UInt8) (k : Nat) (hk : 1 ≤ k) : jt T (k + 1) = jt T k ++ ([44] ++ T k) := by
  unfold jt
  rw [List.range_succ, List.map_append, List.map_cons, List.map_nil, join_snoc]
  intro h
  have := congrArg List.length h
  simp at this; omega
theorem jt_len (T : Nat → List UInt8) (b : Nat) : ∀ k, 1 ≤ k → (∀ i, i < k → (T i).length ≤ b) → (jt T k).length ≤ (b + 1) * k
  | 0, h, _ => absurd h (by omega)
  | 1, _, h => by rw [jt_one]; have := h 0 (by omega); omega
  | k + 2, _, h => by
    rw [jt_succ T (k + 1) (by omega), List.length_append, List.length_append]
    have h1 := jt_len T b (k + 1) (by omega) (fun i hi => h i (by omega))
    have h2 := h (k + 1) (by omega)
    rw [Nat.mul_succ]
    simp only [List.length_cons, List.length_nil]
    omega
/-- What the texts' makers return: none for no element. -/
def listTxt (T : Nat → List UInt8) (n : Nat) : List UInt8 := if n = 0 then [110, 111, 110, 101] else jt T n

/-- A row of strings of the call's own. -/
def SOwn (w : World) (B : Nat) (v : Value) (l : List ByteArray) : Prop := w.ownsRow B 9 1 v l.length (l.map Value.string)
theorem SOwn.nil (w : World) (B : Nat) : SOwn w B (.slice none 0 0) [] := World.ownsRow_nil w B _ 1
theorem infoStr : (Tryd.prog.info? 9).map (fun i => (i.zero, i.size, i.bytes)) = some (some (.string ByteArray.empty), 1, 16) := by kernel_rfl
set_option maxRecDepth 100000 in
/-- THE WALK's LAW: a string put behind a row of the call's own. -/
theorem wpList_sadd {w : World} {ops : Array Oper} {rest : List Oper} {o : Oper} {a : Act} {Q : Exit → Act → World → Prop} (hgd : o.guard = none) (s x : Operand)
    (ho : o.op = .call { callee := .builtin .append, args := #[s, x], argTypes := #[72, 72] })
    (B : Nat) (v : Value) (l : List ByteArray) (b : ByteArray) (hs : a.eval s = v) (hx : a.eval x = .slice (some ⟨w.heap.size, 0, none⟩) 1 1) (hl : SOwn w B v l) (hB : B ≤ w.heap.size) (hlen : l.length ≤ 1048576)
    (h : ∀ v' w', Hid (SOwn w' B v' (l ++ [b])) → (∀ B0 a0, B0 ≤ B → Below B0 a0 w → Below B0 a0 w') → wpList Tryd.prog ops Q rest (a.put o.dst v') w') : wpList Tryd.prog ops Q (o :: rest) a (w.alloc (.cells #[.string b] 9)) := by
  obtain ⟨i0, hi, hz0, hz1, hz2⟩ := info_parts infoStr
  refine wpList_append_own _ hgd s x 72 ho B 9 i0 (.string ByteArray.empty) 1 16 Tryd.underlying72 hi hz0 hz1 hz2 rfl (by decide) v l.length (l.map Value.string) hs (World.ownsRow.alloc hl _) ⟨w.heap.size, 0, none⟩ 1 1 [.string b] hx rfl (fun j u hu => ?_) (fun u hu => ?_) (by unfold maxLen; omega) (by omega) (Nat.le_trans hB (below_alloc1 w _).size) ?_
  · match j, hu with
    | 0, hu => 
      simp only [List.getElem?_cons_zero, Option.some.injEq] at hu
      subst hu
      rw [add_plain0]
      simp
    | j + 1, hu => simp at hu
  · rw [List.mem_singleton] at hu; subst hu; rfl
  · intro v' w' hown hgrow _
    have e : l.map Value.string ++ [Value.string b] = (l ++ [b]).map Value.string := by simp
    have e2 : l.length + 1 = (l ++ [b]).length := by simp
    rw [e, e2] at hown
    exact h v' w' hown (fun B0 a0 hB0 hb => (hb.alloc (Nat.le_trans hB0 hB) _).grown hgrow (Nat.le_trans hB0 (Nat.le_trans hB (below_alloc1 w _).size)) (fun k hk => Nat.le_trans hB0 (World.ownsRow.lt hl k hk).1))
theorem joinW (w : World) (B g c n : Nat) (xs : List ByteArray) (hn : n = xs.length) (hn1 : xs.length ≤ 1048576) (hlen : (Lib.join (xs.map (·.data.toList)) [44]).length ≤ 1048576) (hl : SOwn w B (.slice (some ⟨g, 0, none⟩) n c) xs) (h0 : 0 < n) :
    Calls Tryd.prog 79 #[.slice (some ⟨g, 0, none⟩) n c, .string ⟨#[44]⟩] w fun e w' => e = .returned (.string ⟨(Lib.join (xs.map (·.data.toList)) [44]).toArray⟩) ∧ Below w.heap.size w w' := by
  subst hn
  have hg := (World.ownsRow.lt hl g rfl).2
  have hc : xs.length ≤ c := by
    rcases hl.2 with ⟨h, _⟩ | ⟨g', c', cur, hv, _, _, hle, _⟩
    · cases h
    · injection hv with _ _ h3; omega
  exact Tryd.strings_Join g 0 c xs ⟨#[44]⟩ w (fun j x hx => by
    have hj : j < xs.length := by
      rcases Nat.lt_or_ge j xs.length with h | h
      · exact h
      · rw [List.getElem?_eq_none h] at hx; cases hx
    rw [Nat.zero_add, World.ownsRow.cellAt hl j (by omega), List.getElem?_map, hx]; rfl) hg (by omega) hc (by show (Lib.join (xs.map (·.data.toList)) [44]).length ≤ _; omega)
end Go.Proofs.YtlpjclglhjcghaaDoor
