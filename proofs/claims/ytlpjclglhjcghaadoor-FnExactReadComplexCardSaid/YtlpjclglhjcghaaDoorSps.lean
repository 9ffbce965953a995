/- strings.Split, laid at this dump by the kit's tool. No condition. -/
import Derived.Shelf.Strings.Split
import Derived.Test.YtlpjclglhjcghaaDoorProg
namespace Go.Proofs
open Go.Shelf
def Tryd.lays146_ren : Go.Shelf.Ren := ⟨fun | 146 => 64 | 221 => 85 | 268 => 106 | 138 => 107 | 143 => 108 | 195 => 127 | 197 => 93 | 218 => 128 | 219 => 129 | 260 => 116 | 217 => 139 | 225 => 135 | 224 => 134 | 267 => 140 | 266 => 141 | 314 => 142 | n => n, fun | 9 => 9 | 31 => 72 | 3 => 3 | 4 => 4 | 0 => 0 | 105 => 104 | 21 => 21 | 5 => 5 | 46 => 114 | 119 => 145 | 139 => 148 | 138 => 147 | 146 => 134 | 51 => 82 | n => n, fun | 1 => 6 | 3 => 4 | 4 => 5 | n => n⟩
theorem Tryd.lays146 : Go.Proofs.Lays.n146 Tryd.prog Tryd.lays146_ren := {
  mixed := by kernel_rfl
  f138 := Tryd.func107.trans (congrArg some (by kernel_rfl))
  f143 := Tryd.func108.trans (congrArg some (by kernel_rfl))
  f146 := Tryd.func64.trans (congrArg some (by kernel_rfl))
  f195 := Tryd.func127.trans (congrArg some (by kernel_rfl))
  f197 := Tryd.func93.trans (congrArg some (by kernel_rfl))
  f217 := Tryd.func139.trans (congrArg some (by kernel_rfl))
  f218 := Tryd.func128.trans (congrArg some (by kernel_rfl))
  f219 := Tryd.func129.trans (congrArg some (by kernel_rfl))
  f221 := Tryd.func85.trans (congrArg some (by kernel_rfl))
  f224 := Tryd.func134.trans (congrArg some (by kernel_rfl))
  f225 := Tryd.func135.trans (congrArg some (by kernel_rfl))
  f260 := Tryd.func116.trans (congrArg some (by kernel_rfl))
  f266 := Tryd.func141.trans (congrArg some (by kernel_rfl))
  f267 := Tryd.func140.trans (congrArg some (by kernel_rfl))
  f268 := Tryd.func106.trans (congrArg some (by kernel_rfl))
  f314 := Tryd.func142.trans (congrArg some (by kernel_rfl))
  t0 := Tryd.underlying0
  a0 := Tryd.isAgg0
  z0 := Tryd.sizeOf0
  v0 := Tryd.zeroValue0
  t3 := Tryd.underlying3
  a3 := Tryd.isAgg3
  z3 := Tryd.sizeOf3
  v3 := Tryd.zeroValue3
  t4 := Tryd.underlying4
  a4 := Tryd.isAgg4
  z4 := Tryd.sizeOf4
  v4 := Tryd.zeroValue4
  t5 := Tryd.underlying5
  a5 := Tryd.isAgg5
  z5 := Tryd.sizeOf5
  v5 := Tryd.zeroValue5
  t9 := Tryd.underlying9
  a9 := Tryd.isAgg9
  z9 := Tryd.sizeOf9
  v9 := Tryd.zeroValue9
  t21 := Tryd.underlying21
  a21 := Tryd.isAgg21
  z21 := Tryd.sizeOf21
  v21 := Tryd.zeroValue21
  t31 := Tryd.underlying72
  a31 := Tryd.isAgg72
  z31 := Tryd.sizeOf72
  v31 := Tryd.zeroValue72
  t46 := Tryd.underlying114
  a46 := Tryd.isAgg114
  z46 := Tryd.sizeOf114
  v46 := Tryd.zeroValue114
  t51 := Tryd.underlying82
  a51 := Tryd.isAgg82
  z51 := Tryd.sizeOf82
  v51 := Tryd.zeroValue82
  t105 := Tryd.underlying104
  a105 := Tryd.isAgg104
  z105 := Tryd.sizeOf104
  v105 := Tryd.zeroValue104
  t119 := Tryd.underlying145
  a119 := Tryd.isAgg145
  z119 := Tryd.sizeOf145
  t138 := Tryd.underlying147
  a138 := Tryd.isAgg147
  z138 := Tryd.sizeOf147
  v138 := Tryd.zeroValue147
  t139 := Tryd.underlying148
  a139 := Tryd.isAgg148
  z139 := Tryd.sizeOf148
  v139 := Tryd.zeroValue148
  t146 := Tryd.underlying134
  a146 := Tryd.isAgg134
  z146 := Tryd.sizeOf134
  v146 := Tryd.zeroValue134
  g1 := by kernel_rfl
  g3 := by kernel_rfl
  g4 := by kernel_rfl }
open Go.RowKit Go.Lib in
/-- strings.Split. (LAID: no walk: one application.) -/
theorem Tryd.strings_Split (s sep : ByteArray) (m : Int) (w : World) (hs : s.size < 4294967281) (hm : w.cell? ⟨6, 0, none⟩ = some (.int .i64 m)) (h1 : 1 ≤ sep.size) :
    Calls Tryd.prog 64 #[.string s, .string sep] w fun e w' =>
      e = .returned (.slice (some ⟨w.heap.size, 0, none⟩) (Lib.countB s sep + 1) (Lib.countB s sep + 1)) ∧ w' = w.alloc (.cells ((Lib.splitB sep 0 (Lib.countB s sep) s).map Value.string).toArray 9) := Any.strings_Split Tryd.lays146 (by kernel_rfl) s sep m w hs hm h1
end Go.Proofs
