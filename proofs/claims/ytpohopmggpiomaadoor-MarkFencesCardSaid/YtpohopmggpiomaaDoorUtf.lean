/-
  Contracts of the kit's library laid at this dump by hand: bytes.makeASCIISet, asciiSet.contains, utf8.DecodeRune.
-/
import Derived.Test.YtpohopmggpiomaaDoorStr
import Derived.Shelf.Bytes.SlTrimWalks
import Derived.Shelf.Spec.DecodeRune
namespace Go.Proofs.YtpohopmggpiomaaDoor
open Go.RowKit

def renA : Go.Shelf.Ren := ⟨fun | 11 => 79 | 16 => 80 | n => n, fun | 3 => 3 | 4 => 4 | 5 => 5 | 9 => 9 | 27 => 109 | 31 => 123 | n => n, fun | n => n⟩
theorem layA : Go.Proofs.SlLaysV.n11 Tryd.prog renA := {
  mixed := by kernel_rfl
  f11 := Tryd.func79.trans (congrArg some (by kernel_rfl))
  t0 := Tryd.underlying0
  a0 := Tryd.isAgg0
  z0 := Tryd.sizeOf0
  v0 := Tryd.zeroValue0
  t3 := Tryd.underlying3
  a3 := Tryd.isAgg3
  z3 := Tryd.sizeOf3
  v3 := Tryd.zeroValue3
  t4 := Tryd.underlying4
  a4 := Tryd.isAgg4
  z4 := Tryd.sizeOf4
  v4 := Tryd.zeroValue4
  t5 := Tryd.underlying5
  a5 := Tryd.isAgg5
  z5 := Tryd.sizeOf5
  v5 := Tryd.zeroValue5
  t9 := Tryd.underlying9
  a9 := Tryd.isAgg9
  z9 := Tryd.sizeOf9
  v9 := Tryd.zeroValue9
  t27 := Tryd.underlying109
  a27 := Tryd.isAgg109
  z27 := Tryd.sizeOf109 }
theorem layC : Go.Proofs.SlLaysV.n16 Tryd.prog renA := {
  mixed := by kernel_rfl
  f16 := Tryd.func80.trans (congrArg some (by kernel_rfl))
  t0 := Tryd.underlying0
  a0 := Tryd.isAgg0
  z0 := Tryd.sizeOf0
  v0 := Tryd.zeroValue0
  t4 := Tryd.underlying4
  a4 := Tryd.isAgg4
  z4 := Tryd.sizeOf4
  v4 := Tryd.zeroValue4
  t5 := Tryd.underlying5
  a5 := Tryd.isAgg5
  z5 := Tryd.sizeOf5
  v5 := Tryd.zeroValue5
  t27 := Tryd.underlying109
  a27 := Tryd.isAgg109
  z27 := Tryd.sizeOf109
  t31 := Tryd.underlying123
  a31 := Tryd.isAgg123
  z31 := Tryd.sizeOf123
  v31 := Tryd.zeroValue123 }

def renD : Go.Shelf.Ren := ⟨fun | 32 => 81 | 49 => 90 | n => n, fun | 3 => 3 | 4 => 4 | 5 => 5 | 21 => 21 | 25 => 98 | 30 => 22 | 33 => 81 | 66 => 117 | 68 => 119 | 69 => 120 | n => n, fun | 2 => 1 | 3 => 2 | n => n⟩
theorem layD : Go.Proofs.Lays7.n32 Tryd.prog renD := {
  mixed := by kernel_rfl
  f32 := Tryd.func81.trans (congrArg some (by kernel_rfl))
  f49 := Tryd.func90.trans (congrArg some (by kernel_rfl))
  t0 := Tryd.underlying0
  a0 := Tryd.isAgg0
  z0 := Tryd.sizeOf0
  v0 := Tryd.zeroValue0
  i0 := by kernel_rfl
  t3 := Tryd.underlying3
  a3 := Tryd.isAgg3
  z3 := Tryd.sizeOf3
  v3 := Tryd.zeroValue3
  i3 := by kernel_rfl
  t4 := Tryd.underlying4
  a4 := Tryd.isAgg4
  z4 := Tryd.sizeOf4
  v4 := Tryd.zeroValue4
  i4 := by kernel_rfl
  t5 := Tryd.underlying5
  a5 := Tryd.isAgg5
  z5 := Tryd.sizeOf5
  v5 := Tryd.zeroValue5
  i5 := by kernel_rfl
  t21 := Tryd.underlying21
  a21 := Tryd.isAgg21
  z21 := Tryd.sizeOf21
  v21 := Tryd.zeroValue21
  i21 := by kernel_rfl
  t25 := Tryd.underlying98
  a25 := Tryd.isAgg98
  z25 := Tryd.sizeOf98
  v25 := Tryd.zeroValue98
  i25 := by kernel_rfl
  t30 := Tryd.underlying22
  a30 := Tryd.isAgg22
  z30 := Tryd.sizeOf22
  v30 := Tryd.zeroValue22
  i30 := by kernel_rfl
  t33 := Tryd.underlying81
  a33 := Tryd.isAgg81
  z33 := Tryd.sizeOf81
  v33 := Tryd.zeroValue81
  i33 := by kernel_rfl
  t66 := Tryd.underlying117
  a66 := Tryd.isAgg117
  z66 := Tryd.sizeOf117
  t68 := Tryd.underlying119
  a68 := Tryd.isAgg119
  z68 := Tryd.sizeOf119
  v68 := Tryd.zeroValue119
  i68 := by kernel_rfl
  t69 := Tryd.underlying120
  a69 := Tryd.isAgg120
  z69 := Tryd.sizeOf120
  v69 := Tryd.zeroValue120
  i69 := by kernel_rfl
  g2 := by kernel_rfl
  g3 := by kernel_rfl }
end Go.Proofs.YtpohopmggpiomaaDoor
