/- The walks of the reading of lists of complex numbers, of the program. No condition. -/
import Derived.Test.YtlpjclglhjcghaaDoorRg
import Derived.Test.YtlpjclglhjcghaaDoorRl
import Derived.Test.YtlpjclglhjcghaaDoorPo
import Derived.Test.YtlpjclglhjcghaaDoorCx
namespace Go.Proofs.YtlpjclglhjcghaaDoor
open Go Go.RowKit Go.Lib

/-- An element's value. -/
def mkC (x : Nat × Nat) : Value := .complex .f32 x.1 x.2
theorem infoC : (Tryd.prog.info? 56).map (fun i => (i.zero, i.size, i.bytes)) = some (some (.complex .f32 0 0), 1, 8) := by kernel_rfl
/-- A row of the call's own. -/
def OC (w : World) (B : Nat) (v : Value) (l : List (Nat × Nat)) : Prop := w.ownsRow B 56 1 v l.length (l.map mkC)
theorem OC.nil (w : World) (B : Nat) : OC w B (.slice none 0 0) [] := World.ownsRow_nil w B _ 1
theorem OC.made (w : World) (B : Nat) (h : B ≤ w.heap.size) : OC (w.alloc (.cells #[] 56)) B (.slice (some ⟨w.heap.size, 0, none⟩) 0 0) [] := World.ownsRow_made w #[] 0 h (Nat.zero_le _) rfl
theorem OC.on {w w' : World} {B : Nat} {v : Value} {l : List (Nat × Nat)} (h : OC w B v l) (hb : Below w.heap.size w w') : OC w' B v l := by
  refine ⟨h.1, ?_⟩
  rcases h.2 with ⟨e1, e2⟩ | ⟨g, cap, cur, e1, e2, e3, e4⟩
  · exact .inl ⟨e1, e2⟩
  · refine .inr ⟨g, cap, cur, e1, e2, ?_, e4⟩
    rw [hb.block g (Array.getElem?_eq_some_iff.1 e3).1]; exact e3
theorem OC.shape {w : World} {B : Nat} {v : Value} {l : List (Nat × Nat)} (h : OC w B v l) : ∃ A c, v = .slice A l.length c := by
  rcases h.2 with ⟨e1, e2⟩ | ⟨g, cap, cur, e1, _⟩
  · exact ⟨none, 0, by rw [e1, e2]⟩
  · exact ⟨_, _, e1⟩
set_option maxRecDepth 100000 in
/-- THE WALK's LAW: an element put behind a row of the call's own. -/
theorem wpList_addC {w : World} {ops : Array Oper} {rest : List Oper} {o : Oper} {a : Act} {Q : Exit → Act → World → Prop} (hgd : o.guard = none) (s x : Operand)
    (ho : o.op = .call { callee := .builtin .append, args := #[s, x], argTypes := #[33, 33] })
    (B : Nat) (v : Value) (l : List (Nat × Nat)) (b : Nat × Nat) (bv : Value) (hbv : bv = mkC b) (hs : a.eval s = v) (hx : a.eval x = .slice (some ⟨w.heap.size, 0, none⟩) 1 1) (hl : OC w B v l) (hB : B ≤ w.heap.size) (hlen : l.length ≤ 1048576)
    (h : ∀ v' w', Hid (OC w' B v' (l ++ [b])) → (∀ B0 a0, B0 ≤ B → Below B0 a0 w → Below B0 a0 w') → wpList Tryd.prog ops Q rest (a.put o.dst v') w') : wpList Tryd.prog ops Q (o :: rest) a (w.alloc (.cells #[bv] 56)) := by
  subst hbv
  obtain ⟨i0, hi, hz0, hz1, hz2⟩ := info_parts infoC
  refine wpList_append_own _ hgd s x 33 ho B 56 i0 (.complex .f32 0 0) 1 8 Tryd.underlying33 hi hz0 hz1 hz2 rfl (by decide) v l.length (l.map mkC) hs (World.ownsRow.alloc hl _) ⟨w.heap.size, 0, none⟩ 1 1 [mkC b] hx rfl (fun j u hu => ?_) (fun u hu => ?_) (by unfold maxLen; omega) (by omega) (Nat.le_trans hB (below_alloc1 w _).size) ?_
  · match j, hu with
    | 0, hu =>
      simp only [List.getElem?_cons_zero, Option.some.injEq] at hu
      subst hu
      rw [add_plain0]
      simp
    | j + 1, hu => simp at hu
  · rw [List.mem_singleton] at hu; subst hu; rfl
  · intro v' w' hown hgrow _
    have e : l.map mkC ++ [mkC b] = (l ++ [b]).map mkC := by simp
    have e2 : l.length + 1 = (l ++ [b]).length := by simp
    rw [e, e2] at hown
    exact h v' w' hown (fun B0 a0 hB0 hb => (hb.alloc (Nat.le_trans hB0 hB) _).grown hgrow (Nat.le_trans hB0 (Nat.le_trans hB (below_alloc1 w _).size)) (fun k hk => Nat.le_trans hB0 (World.ownsRow.lt hl k hk).1))

set_option maxRecDepth 100000 in
/-- THE WALK's LAW: an element put behind an empty row that has no room. -/
theorem wpList_firstC {w : World} {ops : Array Oper} {rest : List Oper} {o : Oper} {a : Act} {Q : Exit → Act → World → Prop} (hgd : o.guard = none) (s x : Operand)
    (ho : o.op = .call { callee := .builtin .append, args := #[s, x], argTypes := #[33, 33] })
    (A : Option Addr) (b : Nat × Nat) (bv : Value) (hbv : bv = mkC b) (hs : a.eval s = .slice A 0 0) (hx : a.eval x = .slice (some ⟨w.heap.size, 0, none⟩) 1 1)
    (h : ∀ v' w', (∀ B, B ≤ w.heap.size → Hid (OC w' B v' [b])) → (∀ B0 a0, B0 ≤ w.heap.size → Below B0 a0 w → Below B0 a0 w') → wpList Tryd.prog ops Q rest (a.put o.dst v') w') : wpList Tryd.prog ops Q (o :: rest) a (w.alloc (.cells #[bv] 56)) := by
  subst hbv
  obtain ⟨i0, hi, hz0, hz1, hz2⟩ := info_parts infoC
  refine wpList_append_grows _ hgd s x 33 ho 56 i0 (.complex .f32 0 0) 1 8 Tryd.underlying33 hi hz0 hz1 hz2 rfl (by decide) A 0 0 [] hs (fun _ => ⟨rfl, rfl⟩) rfl (fun b _ j u hu => by simp at hu) ⟨w.heap.size, 0, none⟩ 1 1 [mkC b] hx rfl (fun j u hu => ?_) (fun u hu => ?_) (by decide) (by unfold maxLen; omega) (by omega) ?_
  · match j, hu with
    | 0, hu =>
      simp only [List.getElem?_cons_zero, Option.some.injEq] at hu
      subst hu
      rw [add_plain0]
      simp
    | j + 1, hu => simp at hu
  · rw [List.mem_singleton] at hu; subst hu; rfl
  · intro v' w' hown hgrow
    have hle := (below_alloc1 w (.cells #[mkC b] 56)).size
    exact h v' w' (fun B hB => World.ownsRow.mono hown (Nat.le_trans hB hle)) (fun B0 a0 hB0 hb => (hb.alloc hB0 _).grown hgrow (Nat.le_trans hB0 hle) (fun k hk => by cases hk))

/-- What the readers of lists return. -/
def RetOC (o : Option (List (Nat × Nat))) (w : World) (e : Ending) (w' : World) : Prop := ∃ v, e = .returned (.tuple #[v, .bool o.isSome]) ∧ Hid (OC w' w.heap.size v (o.getD [])) ∧ Below w.heap.size w w'
set_option maxHeartbeats 1000000 in
set_option maxRecDepth 100000 in
theorem implTextsC (s : ByteArray) (w : World) (hs : s.size ≤ 1048576) (hF : FullH w) :
    Calls Tryd.prog 45 #[.string s, .int .i64 256, .func (.func 46) #[] #[]] w (RetOC (rlG rdC 256 s.data.toList) w) := by
  have HF := Lib.hid hF
  clear hF
  by_cases hno : s.data.toList = [110, 111, 110, 101]
  · have HR := Lib.hid (rlG_no rdC 256 hno)
    have e1 : (s.toList == [110, 111, 110, 101]) = true := by rw [Lib.toList_data, hno]; rfl
    clear hno
    go_enter Tryd.func45, Tryd.ntmps45
    go_wp2
    go_ret2
    rw [HR.out]
    exact ⟨_, rfl, OC.nil _ _, Below.refl _ _⟩
  · have HNO := Lib.hid hno
    have e1 : (s.toList == [110, 111, 110, 101]) = false := by rw [Lib.toList_data]; simpa using hno
    clear hno
    have HM0 : Hid (((parts s.data.toList).take 0).mapM rdC = some []) := rfl
    go_enter Tryd.func45, Tryd.ntmps45
    go_wp2_with (first | (go_at_call 64; refine (implCut s _ hs HF.out.full).mono ?_; rintro e w1 ⟨A, n, c, D, rfl, HN, HP, HS, B1⟩; have HNP := Lib.hid (show n = (parts s.data.toList).length by rw [HN.out, ← HP.out, List.length_map])) | go_in)
    have HF1 := Lib.hid (HF.out.on B1)
    go_loopw [8, 18] (fun out i wr => ∃ (k : Nat) (L : List (Nat × Nat)) (O : Option Addr) (oc : Nat), k ≤ n ∧ k ≤ 256 ∧ i = .int .i64 k ∧ out = .slice O k oc ∧ Hid (OC wr w1.heap.size (.slice O k oc) L) ∧ L.length = k ∧ Hid (((parts s.data.toList).take k).mapM rdC = some L) ∧ Below w.heap.size w wr ∧ Below w1.heap.size w1 wr) (fun _ i _ => n - (RowKit.intOf i).toNat)
    case atStart => exact ⟨0, [], none, 0, Nat.zero_le _, Nat.zero_le _, rfl, rfl, OC.nil _ _, rfl, HM0, B1, Below.refl _ _⟩
    case round =>
      obtain ⟨k, L, O, oc, hk, hk64, rfl, rfl, HO, hL, HM, hB, hB1⟩ := hrel
      by_cases hlt : k < n
      · have hkD : k < D.length := by rw [← HN.out]; exact hlt
        obtain ⟨a, rfl, hab, c1⟩ := HS.out k hkD
        have c2 : wr.cell? (a.add k) = some (.string D[k]) := (hB1.cell (p := a.add k) (by rw [addb]; exact hab)).trans c1
        have HPt := Lib.hid (part_at HP.out hkD)
        obtain ⟨d, hd⟩ : ∃ d, D[k] = d := ⟨_, rfl⟩
        rw [hd] at c2
        have HPd : Hid ((parts s.data.toList)[k]? = some d.data.toList) := by unfold Hid; rw [HPt.out, hd]
        have hds : Hid (d.size ≤ 281474976710656) := by
          have h1 := parts_le s.data.toList _ (List.mem_of_getElem? HPd.out)
          have h2 : d.data.toList.length = d.size := by simp
          have h3 : s.data.toList.length = s.size := by simp
          unfold Hid; omega
        clear c1 hd HPt
        cases hr : rdC d.data.toList with
        | none =>
          have HR := Lib.hid (rlG_none (m := 256) HNO.out HPd.out hr)
          go_wp2_with (first | (go_at_call 46; refine (readC_none d hds.out hr _ (HF1.out.on hB1)).mono ?_; rintro e w2 ⟨z, z2, rfl, B2⟩) | go_in)
          go_ret2
          rw [HR.out]
          exact ⟨_, rfl, OC.nil _ _, hB.trans (B2.mono hB.size)⟩
        | some x =>
          have HM2 := Lib.hid (mapG_take HM.out HPd.out hr)
          by_cases h64 : k = 256
          · have e2 : ((k : Int) == 256) = true := by subst h64; rfl
            have HR := Lib.hid (rlG_long (f := rdC) (m := 256) HNO.out (by have := HNP.out; omega))
            clear h64
            go_wp2_with (first | (go_at_call 46; refine (readC_some d hds.out x hr _ (HF1.out.on hB1)).mono ?_; rintro e w2 ⟨rfl, B2⟩) | go_in)
            go_ret2
            rw [HR.out]
            exact ⟨_, rfl, OC.nil _ _, hB.trans (B2.mono hB.size)⟩
          · have e2 : ((k : Int) == 256) = false := by simp; omega
            go_wp2_with (first | (go_at_call 46; refine (readC_some d hds.out x hr _ (HF1.out.on hB1)).mono ?_; rintro e w2 ⟨rfl, B2⟩; have HO2 := Lib.hid (OC.on HO.out B2)) | (at_builtin; refine wpList_addC rfl (.tmp 36) (.tmp 38) rfl w1.heap.size _ L x _ rfl rfl rfl HO2.out (Nat.le_trans hB1.size B2.size) (by omega) ?_; intro v' w3 HO3 hb3) | go_in)
            have HB3 := hb3 _ w B1.size (hB.trans (B2.mono hB.size))
            have HB4 := hb3 _ w1 (Nat.le_refl _) (hB1.trans (B2.mono hB1.size))
            obtain ⟨O', oc', hv⟩ := OC.shape HO3.out
            have hln : (L ++ [x]).length = k + 1 := by simp [hL]
            rw [hln] at hv
            subst hv
            go_roundw
            case rel => exact ⟨k + 1, L ++ [x], O', oc', by omega, by omega, by go_num, rfl, HO3, hln, HM2, HB3, HB4⟩
            case measure => simp [RowKit.intOf]; omega
      · obtain rfl : k = n := by omega
        have HR := Lib.hid (rlG_some HNO.out HNP.out hk64 HM.out)
        go_wp2
        go_ret2
        rw [HR.out]
        exact ⟨_, rfl, World.ownsRow.mono HO.out B1.size, hB⟩
end Go.Proofs.YtlpjclglhjcghaaDoor
