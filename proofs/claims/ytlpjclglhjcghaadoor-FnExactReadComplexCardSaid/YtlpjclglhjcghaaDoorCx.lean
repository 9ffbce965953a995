/- A complex number read from a text, by the program and by the reference. No condition. -/
import Derived.Test.YtlpjclglhjcghaaDoorRs
namespace Go.Proofs.YtlpjclglhjcghaaDoor
open Go Go.RowKit Go.Lib

/-- The complex number with a text. -/
def rdC (l : List UInt8) : Option (Nat × Nat) := if l.length = 16 then (rdH (l.take 8)).bind fun a => (rdH (l.drop 8)).map fun b => (a, b) else none
theorem rdC_len {l : List UInt8} (h : l.length ≠ 16) : rdC l = none := if_neg h
theorem rdC_at {l : List UInt8} {a b : Nat} (h : l.length = 16) (ha : rdH (l.take 8) = some a) (hb : rdH (l.drop 8) = some b) : rdC l = some (a, b) := by
  unfold rdC; rw [if_pos h, ha, hb]; rfl
theorem rdC_one {l : List UInt8} (ha : rdH (l.take 8) = none) : rdC l = none := by
  unfold rdC; rw [ha]; split <;> rfl
theorem rdC_two {l : List UInt8} (hb : rdH (l.drop 8) = none) : rdC l = none := by
  unfold rdC; rw [hb]; split
  · cases rdH (l.take 8) <;> rfl
  · rfl
theorem rdC_some {l : List UInt8} {x : Nat × Nat} (h : rdC l = some x) : l.length = 16 ∧ rdH (l.take 8) = some x.1 ∧ rdH (l.drop 8) = some x.2 := by
  unfold rdC at h
  split at h
  · rename_i hl
    cases ha : rdH (l.take 8) with
    | none => rw [ha] at h; cases h
    | some a =>
      cases hb : rdH (l.drop 8) with
      | none => rw [ha, hb] at h; cases h
      | some b =>
        rw [ha, hb] at h
        obtain rfl := Option.some.inj h
        exact ⟨hl, rfl, rfl⟩
  · cases h
theorem rdC_lt {l : List UInt8} {x : Nat × Nat} (h : rdC l = some x) : x.1 < 2 ^ 32 ∧ x.2 < 2 ^ 32 := ⟨rdH_lt (rdC_some h).2.1, rdH_lt (rdC_some h).2.2⟩
theorem ext_take (s : ByteArray) : (s.extract 0 8).data.toList = s.data.toList.take 8 := by rw [Lib.extract_data]; simp
theorem ext_drop (s : ByteArray) : (s.extract 8 s.size).data.toList = s.data.toList.drop 8 := by
  rw [Lib.extract_data, List.take_of_length_le]
  rw [List.length_drop]; simp
set_option maxHeartbeats 1000000 in
set_option maxRecDepth 100000 in
theorem readC_some (s : ByteArray) (_hs : s.size ≤ 281474976710656) (x : Nat × Nat) (h : rdC s.data.toList = some x) (w : World) (hF : FullH w) :
    Calls Tryd.prog 46 #[.string s] w fun e w' => e = .returned (.tuple #[.complex .f32 x.1 x.2, .bool true]) ∧ Below w.heap.size w w' := by
  have HF := Lib.hid hF
  obtain ⟨h16, ha, hb⟩ := rdC_some h
  have hz : s.size = 16 := by have : s.data.toList.length = s.size := by simp
                              omega
  rw [← ext_take] at ha
  rw [← ext_drop] at hb
  have HA := Lib.hid ha
  have HB := Lib.hid hb
  have s1 : Hid ((s.extract 0 8).size ≤ 281474976710656) := by unfold Hid; rw [ByteArray.size_extract]; omega
  have s2 : Hid ((s.extract 8 s.size).size ≤ 281474976710656) := by unfold Hid; rw [ByteArray.size_extract]; omega
  have e8 : ((s.size : Int) == 16) = true := by rw [hz]; rfl
  have e8' : ((s.size : Int) != 16) = false := by rw [hz]; rfl
  have g8 : (8 : Int) ≤ (s.size : Int) := by omega
  have g8n : 8 ≤ s.size := by omega
  clear ha hb h h16 hF hz
  go_enter Tryd.func46, Tryd.ntmps46
  go_wp2_with fail
  refine (readB_some (s.extract 0 8) s1.out x.1 HA.out _ HF.out).mono ?_
  rintro e w1 ⟨rfl, B1⟩
  go_wp2_with fail
  refine (readB_some (s.extract 8 s.size) s2.out x.2 HB.out _ (HF.out.on B1)).mono ?_
  rintro e w2 ⟨rfl, B2⟩
  go_wp2
  go_ret2
  exact ⟨rfl, below_trans B1 B2⟩
set_option maxHeartbeats 1000000 in
set_option maxRecDepth 100000 in
theorem readC_none (s : ByteArray) (_hs : s.size ≤ 281474976710656) (h : rdC s.data.toList = none) (w : World) (hF : FullH w) :
    Calls Tryd.prog 46 #[.string s] w fun e w' => ∃ a b, e = .returned (.tuple #[.complex .f32 a b, .bool false]) ∧ Below w.heap.size w w' := by
  have HF := Lib.hid hF
  clear hF
  by_cases hz : s.size = 16
  · have e8 : ((s.size : Int) == 16) = true := by rw [hz]; rfl
    have e8' : ((s.size : Int) != 16) = false := by rw [hz]; rfl
    have g8 : (8 : Int) ≤ (s.size : Int) := by omega
    have g8n : 8 ≤ s.size := by omega
    have s1 : Hid ((s.extract 0 8).size ≤ 281474976710656) := by unfold Hid; rw [ByteArray.size_extract]; omega
    have s2 : Hid ((s.extract 8 s.size).size ≤ 281474976710656) := by unfold Hid; rw [ByteArray.size_extract]; omega
    have h16 : s.data.toList.length = 16 := by simpa using hz
    cases ha : rdH (s.extract 0 8).data.toList with
    | none =>
      have HA := Lib.hid ha
      clear ha h h16 hz
      have hcase : (∃ b, Hid (rdH (s.extract 8 s.size).data.toList = some b)) ∨ Hid (rdH (s.extract 8 s.size).data.toList = none) := by
        rcases Option.eq_none_or_eq_some (rdH (s.extract 8 s.size).data.toList) with hb | ⟨b, hb⟩
        · exact .inr hb
        · exact .inl ⟨b, hb⟩
      go_enter Tryd.func46, Tryd.ntmps46
      go_wp2_with fail
      refine (readB_none (s.extract 0 8) s1.out HA.out _ HF.out).mono ?_
      rintro e w1 ⟨x, rfl, hx, B1⟩
      clear hx
      go_wp2_with fail
      rcases hcase with ⟨b, HB⟩ | HB
      · refine (readB_some (s.extract 8 s.size) s2.out b HB.out _ (HF.out.on B1)).mono ?_
        rintro e w2 ⟨rfl, B2⟩
        go_wp2
        go_ret2
        exact ⟨_, _, rfl, below_trans B1 B2⟩
      · refine (readB_none (s.extract 8 s.size) s2.out HB.out _ (HF.out.on B1)).mono ?_
        rintro e w2 ⟨y, rfl, hy, B2⟩
        clear hy
        go_wp2
        go_ret2
        exact ⟨_, _, rfl, below_trans B1 B2⟩
    | some a =>
      have hb : rdH (s.extract 8 s.size).data.toList = none := by
        cases hb : rdH (s.extract 8 s.size).data.toList with
        | none => rfl
        | some b =>
          rw [ext_take] at ha
          rw [ext_drop] at hb
          rw [rdC_at h16 ha hb] at h; cases h
      have HA := Lib.hid ha
      have HB := Lib.hid hb
      clear ha hb h h16 hz
      go_enter Tryd.func46, Tryd.ntmps46
      go_wp2_with fail
      refine (readB_some (s.extract 0 8) s1.out a HA.out _ HF.out).mono ?_
      rintro e w1 ⟨rfl, B1⟩
      go_wp2_with fail
      refine (readB_none (s.extract 8 s.size) s2.out HB.out _ (HF.out.on B1)).mono ?_
      rintro e w2 ⟨y, rfl, hy, B2⟩
      clear hy
      go_wp2
      go_ret2
      exact ⟨_, _, rfl, below_trans B1 B2⟩
  · have e8 : ((s.size : Int) == 16) = false := by rw [beq_eq_false_iff_ne]; omega
    have e8' : ((s.size : Int) != 16) = true := by rw [bne_iff_ne]; omega
    go_enter Tryd.func46, Tryd.ntmps46
    go_wp2
    go_ret2
    exact ⟨_, _, rfl, Below.refl _ _⟩

end Go.Proofs.YtlpjclglhjcghaaDoor
