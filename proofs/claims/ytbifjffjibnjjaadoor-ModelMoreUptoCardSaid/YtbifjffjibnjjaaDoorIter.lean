/-
  Maps and their keys, sorted, laid at this program: written by the kit's tool lay-plain.mjs, in plain words.
-/
import Derived.Shelf.SlIter.Nil
import Derived.Shelf.SortM.Plain
import Derived.Shelf.SortM.SortNone
import Derived.Ground.GgzProg
import Derived.Ground.SlgmProg
import Derived.Ground.SlmpProg
import Derived.Shelf.SlMaps.Copy
import Derived.Shelf.SlGeneric
import Derived.Test.YtbifjffjibnjjaaDoorChecked
namespace Go.Proofs.YtbifjffjibnjjaaDoor
open Go.Shelf
def keysLays_ren : Go.Shelf.Ren := ⟨fun | 7 => 38 | 10 => 69 | n => n, fun | 23 => 77 | 26 => 9 | 3 => 4 | 28 => 75 | 0 => 0 | 27 => 74 | 33 => 110 | 4 => 4 | n => n, fun | n => n⟩
theorem keysLays : Go.Proofs.SlLaysZ.n7 Tryd.prog keysLays_ren := {
  mixed := by kernel_rfl
  f7 := ⟨Tryd.f38.name, by decide, Tryd.func38.trans (congrArg some (by kernel_rfl))⟩
  f10 := ⟨Tryd.f69.name, by decide, Tryd.func69.trans (congrArg some (by kernel_rfl))⟩
  t0 := Tryd.underlying0
  a0 := Tryd.isAgg0
  z0 := Tryd.sizeOf0
  v0 := Tryd.zeroValue0
  t4 := Tryd.underlying4
  a4 := Tryd.isAgg4
  z4 := Tryd.sizeOf4
  v4 := Tryd.zeroValue4
  t23 := Tryd.underlying77
  a23 := Tryd.isAgg77
  z23 := Tryd.sizeOf77
  v23 := Tryd.zeroValue77
  t26 := Tryd.underlying9
  a26 := Tryd.isAgg9
  z26 := Tryd.sizeOf9
  v26 := Tryd.zeroValue9
  t27 := Tryd.underlying74
  a27 := Tryd.isAgg74
  z27 := Tryd.sizeOf74
  v27 := Tryd.zeroValue74
  t28 := Tryd.underlying75
  a28 := Tryd.isAgg75
  z28 := Tryd.sizeOf75
  v28 := Tryd.zeroValue75
  t33 := Tryd.underlying110
  a33 := Tryd.isAgg110
  z33 := Tryd.sizeOf110
  v33 := Tryd.zeroValue110 }
def sortedLays_ren : Go.Shelf.Ren := ⟨fun | 6 => 37 | 8 => 67 | 9 => 68 | 11 => 94 | 13 => 96 | 12 => 95 | 23 => 121 | 24 => 122 | 14 => 112 | 15 => 113 | 16 => 114 | 17 => 115 | 18 => 116 | 19 => 117 | 20 => 118 | 21 => 119 | 22 => 120 | 25 => 130 | 26 => 131 | 27 => 132 | 28 => 133 | 29 => 134 | 30 => 135 | 31 => 138 | n => n, fun | 26 => 9 | 28 => 75 | 24 => 22 | 0 => 0 | 3 => 3 | 37 => 134 | 48 => 161 | 50 => 145 | 4 => 4 | 40 => 153 | 39 => 152 | 45 => 158 | 5 => 5 | 9 => 9 | 51 => 170 | 55 => 174 | 57 => 176 | 58 => 177 | 33 => 110 | n => n, fun | n => n⟩
theorem sortedLays : Go.Proofs.SlLaysZ.n6 Tryd.prog sortedLays_ren := {
  mixed := by kernel_rfl
  f6 := ⟨Tryd.f37.name, by decide, Tryd.func37.trans (congrArg some (by kernel_rfl))⟩
  f8 := ⟨Tryd.f67.name, by decide, Tryd.func67.trans (congrArg some (by kernel_rfl))⟩
  f11 := ⟨Tryd.f94.name, by decide, Tryd.func94.trans (congrArg some (by kernel_rfl))⟩
  t0 := Tryd.underlying0
  a0 := Tryd.isAgg0
  z0 := Tryd.sizeOf0
  v0 := Tryd.zeroValue0
  t24 := Tryd.underlying22
  a24 := Tryd.isAgg22
  z24 := Tryd.sizeOf22
  v24 := Tryd.zeroValue22
  t26 := Tryd.underlying9
  a26 := Tryd.isAgg9
  z26 := Tryd.sizeOf9
  v26 := Tryd.zeroValue9
  t28 := Tryd.underlying75
  a28 := Tryd.isAgg75
  z28 := Tryd.sizeOf75
  v28 := Tryd.zeroValue75
  i26 := by kernel_rfl }
def sortMLays_ren : Go.Shelf.Ren := ⟨fun | 6 => 68 | 8 => 96 | 9 => 95 | 19 => 121 | 20 => 122 | 21 => 112 | 22 => 113 | 23 => 114 | 24 => 115 | 25 => 116 | 26 => 117 | 27 => 118 | 28 => 119 | 29 => 120 | 36 => 130 | 31 => 131 | 32 => 132 | 37 => 133 | 38 => 134 | 39 => 135 | 41 => 138 | n => n, fun | 27 => 22 | 29 => 9 | 3 => 3 | 32 => 134 | 26 => 22 | 0 => 0 | 44 => 161 | 46 => 145 | 4 => 4 | 36 => 153 | 35 => 152 | 41 => 158 | 5 => 5 | 9 => 9 | 53 => 170 | 57 => 174 | 63 => 176 | 64 => 177 | n => n, fun | n => n⟩
theorem sortMLays : Go.Proofs.SlLaysM.n6 Tryd.prog sortMLays_ren := {
  mixed := by kernel_rfl
  f6 := ⟨Tryd.f68.name, by decide, Tryd.func68.trans (congrArg some (by kernel_rfl))⟩
  f8 := Tryd.func96.trans (congrArg some (by kernel_rfl))
  f9 := ⟨Tryd.f95.name, by decide, Tryd.func95.trans (congrArg some (by kernel_rfl))⟩
  f19 := Tryd.func121.trans (congrArg some (by kernel_rfl))
  f20 := Tryd.func122.trans (congrArg some (by kernel_rfl))
  f21 := ⟨Tryd.f112.name, by decide, Tryd.func112.trans (congrArg some (by kernel_rfl))⟩
  f22 := ⟨Tryd.f113.name, by decide, Tryd.func113.trans (congrArg some (by kernel_rfl))⟩
  f23 := ⟨Tryd.f114.name, by decide, Tryd.func114.trans (congrArg some (by kernel_rfl))⟩
  f24 := ⟨Tryd.f115.name, by decide, Tryd.func115.trans (congrArg some (by kernel_rfl))⟩
  f25 := ⟨Tryd.f116.name, by decide, Tryd.func116.trans (congrArg some (by kernel_rfl))⟩
  f26 := ⟨Tryd.f117.name, by decide, Tryd.func117.trans (congrArg some (by kernel_rfl))⟩
  f27 := ⟨Tryd.f118.name, by decide, Tryd.func118.trans (congrArg some (by kernel_rfl))⟩
  f28 := ⟨Tryd.f119.name, by decide, Tryd.func119.trans (congrArg some (by kernel_rfl))⟩
  f29 := ⟨Tryd.f120.name, by decide, Tryd.func120.trans (congrArg some (by kernel_rfl))⟩
  f31 := Tryd.func131.trans (congrArg some (by kernel_rfl))
  f32 := Tryd.func132.trans (congrArg some (by kernel_rfl))
  f36 := ⟨Tryd.f130.name, by decide, Tryd.func130.trans (congrArg some (by kernel_rfl))⟩
  f37 := ⟨Tryd.f133.name, by decide, Tryd.func133.trans (congrArg some (by kernel_rfl))⟩
  f38 := ⟨Tryd.f134.name, by decide, Tryd.func134.trans (congrArg some (by kernel_rfl))⟩
  f39 := ⟨Tryd.f135.name, by decide, Tryd.func135.trans (congrArg some (by kernel_rfl))⟩
  f41 := ⟨Tryd.f138.name, by decide, Tryd.func138.trans (congrArg some (by kernel_rfl))⟩
  t0 := Tryd.underlying0
  a0 := Tryd.isAgg0
  z0 := Tryd.sizeOf0
  v0 := Tryd.zeroValue0
  t3 := Tryd.underlying3
  a3 := Tryd.isAgg3
  z3 := Tryd.sizeOf3
  v3 := Tryd.zeroValue3
  t4 := Tryd.underlying4
  a4 := Tryd.isAgg4
  z4 := Tryd.sizeOf4
  v4 := Tryd.zeroValue4
  t5 := Tryd.underlying5
  a5 := Tryd.isAgg5
  z5 := Tryd.sizeOf5
  v5 := Tryd.zeroValue5
  t9 := Tryd.underlying9
  a9 := Tryd.isAgg9
  z9 := Tryd.sizeOf9
  v9 := Tryd.zeroValue9
  t26 := Tryd.underlying22
  a26 := Tryd.isAgg22
  z26 := Tryd.sizeOf22
  v26 := Tryd.zeroValue22
  t27 := Tryd.underlying22
  a27 := Tryd.isAgg22
  z27 := Tryd.sizeOf22
  v27 := Tryd.zeroValue22
  t29 := Tryd.underlying9
  a29 := Tryd.isAgg9
  z29 := Tryd.sizeOf9
  v29 := Tryd.zeroValue9
  t32 := Tryd.underlying134
  a32 := Tryd.isAgg134
  z32 := Tryd.sizeOf134
  v32 := Tryd.zeroValue134
  t35 := Tryd.underlying152
  a35 := Tryd.isAgg152
  z35 := Tryd.sizeOf152
  v35 := Tryd.zeroValue152
  t36 := Tryd.underlying153
  a36 := Tryd.isAgg153
  z36 := Tryd.sizeOf153
  v36 := Tryd.zeroValue153
  t41 := Tryd.underlying158
  a41 := Tryd.isAgg158
  z41 := Tryd.sizeOf158
  v41 := Tryd.zeroValue158
  t44 := Tryd.underlying161
  a44 := Tryd.isAgg161
  z44 := Tryd.sizeOf161
  v44 := Tryd.zeroValue161
  t46 := Tryd.underlying145
  a46 := Tryd.isAgg145
  z46 := Tryd.sizeOf145
  v46 := Tryd.zeroValue145
  t53 := Tryd.underlying170
  a53 := Tryd.isAgg170
  z53 := Tryd.sizeOf170
  v53 := Tryd.zeroValue170
  t57 := Tryd.underlying174
  a57 := Tryd.isAgg174
  z57 := Tryd.sizeOf174
  v57 := Tryd.zeroValue174
  t63 := Tryd.underlying176
  a63 := Tryd.isAgg176
  z63 := Tryd.sizeOf176
  v63 := Tryd.zeroValue176
  t64 := Tryd.underlying177
  a64 := Tryd.isAgg177
  z64 := Tryd.sizeOf177
  v64 := Tryd.zeroValue177 }
def copyLays_ren : Go.Shelf.Ren := ⟨fun | 5 => 71 | n => n, fun | 23 => 77 | 24 => 77 | 26 => 9 | 27 => 4 | 0 => 0 | 4 => 4 | n => n, fun | n => n⟩
theorem copyLays : Go.Proofs.SlLaysX.n5 Tryd.prog copyLays_ren := {
  mixed := by kernel_rfl
  f5 := ⟨Tryd.f71.name, by decide, Tryd.func71.trans (congrArg some (by kernel_rfl))⟩
  t0 := Tryd.underlying0
  a0 := Tryd.isAgg0
  z0 := Tryd.sizeOf0
  v0 := Tryd.zeroValue0
  t4 := Tryd.underlying4
  a4 := Tryd.isAgg4
  z4 := Tryd.sizeOf4
  v4 := Tryd.zeroValue4
  t23 := Tryd.underlying77
  a23 := Tryd.isAgg77
  z23 := Tryd.sizeOf77
  v23 := Tryd.zeroValue77
  t24 := Tryd.underlying77
  a24 := Tryd.isAgg77
  z24 := Tryd.sizeOf77
  v24 := Tryd.zeroValue77
  a26 := Tryd.isAgg9
  z26 := Tryd.sizeOf9
  a27 := Tryd.isAgg4
  z27 := Tryd.sizeOf4 }
end Go.Proofs.YtbifjffjibnjjaaDoor
