/-
  unicode/utf8.ValidString: its contract laid at this dump (the shelf's table does not name it).
-/
import Derived.Test.YtlomcmichbnkaaaGreatDoorProg
import Derived.Shelf.Unicode.ValidAny
import Derived.Lib.LaidU8T
namespace Go.Proofs.YtlomcmichbnkaaaGreatDoor
open Go.RowKit

def validRen : Go.Shelf.Ren := ⟨fun | 196 => 19 | 259 => 32 | n => n, fun | 12 => 12 | 46 => 69 | 53 => 103 | 119 => 65 | 138 => 67 | 139 => 68 | n => n, fun | 3 => 0 | 4 => 1 | n => n⟩
theorem laysValid : Go.Proofs.Lays.n196 Tryz.prog validRen where
  mixed := by kernel_rfl
  f196 := Tryz.func19.trans (congrArg some (by kernel_rfl))
  f259 := Tryz.func32.trans (congrArg some (by kernel_rfl))
  t0 := Tryz.underlying0
  a0 := Tryz.isAgg0
  z0 := Tryz.sizeOf0
  v0 := Tryz.zeroValue0
  t3 := Tryz.underlying3
  a3 := Tryz.isAgg3
  z3 := Tryz.sizeOf3
  v3 := Tryz.zeroValue3
  t4 := Tryz.underlying4
  a4 := Tryz.isAgg4
  z4 := Tryz.sizeOf4
  v4 := Tryz.zeroValue4
  t5 := Tryz.underlying5
  a5 := Tryz.isAgg5
  z5 := Tryz.sizeOf5
  v5 := Tryz.zeroValue5
  t9 := Tryz.underlying9
  a9 := Tryz.isAgg9
  z9 := Tryz.sizeOf9
  v9 := Tryz.zeroValue9
  t12 := Tryz.underlying12
  a12 := Tryz.isAgg12
  z12 := Tryz.sizeOf12
  v12 := Tryz.zeroValue12
  t46 := Tryz.underlying69
  a46 := Tryz.isAgg69
  z46 := Tryz.sizeOf69
  v46 := Tryz.zeroValue69
  t53 := Tryz.underlying103
  a53 := Tryz.isAgg103
  z53 := Tryz.sizeOf103
  v53 := Tryz.zeroValue103
  t119 := Tryz.underlying65
  a119 := Tryz.isAgg65
  z119 := Tryz.sizeOf65
  t138 := Tryz.underlying67
  a138 := Tryz.isAgg67
  z138 := Tryz.sizeOf67
  v138 := Tryz.zeroValue67
  t139 := Tryz.underlying68
  a139 := Tryz.isAgg68
  z139 := Tryz.sizeOf68
  v139 := Tryz.zeroValue68
  g3 := by kernel_rfl
  g4 := by kernel_rfl
theorem Valid_any (s : ByteArray) (w : World) (hs : s.size ≤ 9223372036854775807) (hT : Lib.Utf8Tabs 0 1 w) :
    Calls Tryz.prog 19 #[.string s] w fun e w' => e = .returned (.bool (Lib.validD s.data.toList)) ∧ Below w.heap.size w w' :=
  Any.utf8_ValidString laysValid s w hs hT
theorem u8types : U8Types Tryz.prog validRen := U8Types.of196 laysValid
#print axioms Valid_any
end Go.Proofs.YtlomcmichbnkaaaGreatDoor
