/- What the library's contract of utf8.ValidString asks of this program: numbers of functions, types, variables. Printed by the kit's lay-plain. -/
import Derived.Shelf.Unicode.ValidAny
import Derived.Test.YtfkgmodgkifelaaGreatDoorProg
namespace Go.Proofs.YtfkgmodgkifelaaGreatDoor
open Go.Shelf
def utfLays_ren : Go.Shelf.Ren := ⟨fun | 196 => 45 | 259 => 82 | n => n, fun | 9 => 9 | 4 => 4 | 3 => 3 | 5 => 5 | 12 => 12 | 119 => 142 | 0 => 0 | 46 => 121 | 139 => 145 | 138 => 144 | 53 => 42 | n => n, fun | 3 => 0 | 4 => 1 | n => n⟩
theorem utfLays : Go.Proofs.Lays.n196 Tryz.prog utfLays_ren := {
  mixed := by kernel_rfl
  f196 := Tryz.func45.trans (congrArg some (by kernel_rfl))
  f259 := Tryz.func82.trans (congrArg some (by kernel_rfl))
  t0 := Tryz.underlying0
  a0 := Tryz.isAgg0
  z0 := Tryz.sizeOf0
  v0 := Tryz.zeroValue0
  t3 := Tryz.underlying3
  a3 := Tryz.isAgg3
  z3 := Tryz.sizeOf3
  v3 := Tryz.zeroValue3
  t4 := Tryz.underlying4
  a4 := Tryz.isAgg4
  z4 := Tryz.sizeOf4
  v4 := Tryz.zeroValue4
  t5 := Tryz.underlying5
  a5 := Tryz.isAgg5
  z5 := Tryz.sizeOf5
  v5 := Tryz.zeroValue5
  t9 := Tryz.underlying9
  a9 := Tryz.isAgg9
  z9 := Tryz.sizeOf9
  v9 := Tryz.zeroValue9
  t12 := Tryz.underlying12
  a12 := Tryz.isAgg12
  z12 := Tryz.sizeOf12
  v12 := Tryz.zeroValue12
  t46 := Tryz.underlying121
  a46 := Tryz.isAgg121
  z46 := Tryz.sizeOf121
  v46 := Tryz.zeroValue121
  t53 := Tryz.underlying42
  a53 := Tryz.isAgg42
  z53 := Tryz.sizeOf42
  v53 := Tryz.zeroValue42
  t119 := Tryz.underlying142
  a119 := Tryz.isAgg142
  z119 := Tryz.sizeOf142
  t138 := Tryz.underlying144
  a138 := Tryz.isAgg144
  z138 := Tryz.sizeOf144
  v138 := Tryz.zeroValue144
  t139 := Tryz.underlying145
  a139 := Tryz.isAgg145
  z139 := Tryz.sizeOf145
  v139 := Tryz.zeroValue145
  g3 := by kernel_rfl
  g4 := by kernel_rfl }
end Go.Proofs.YtfkgmodgkifelaaGreatDoor
