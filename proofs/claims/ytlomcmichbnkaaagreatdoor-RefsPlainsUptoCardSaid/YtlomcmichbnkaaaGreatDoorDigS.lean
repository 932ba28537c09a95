/-
  strings that are given by the list of their bytes.
-/
import Derived.Test.YtlomcmichbnkaaaGreatDoorGenA
namespace Go.Proofs.YtlomcmichbnkaaaGreatDoor
open Go.RowKit

def digS (l : List UInt8) : ByteArray := ⟨l.toArray⟩
theorem digS_add (l m : List UInt8) : digS l ++ digS m = digS (l ++ m) := by
  apply ByteArray.ext
  simp [digS]
theorem digS_size (l : List UInt8) : (digS l).size = l.length := by simp [digS, ByteArray.size]
theorem run_cat {P : Program} (a b : List UInt8) (ha : a.length ≤ 8388608) (hb : b.length ≤ 8388608) (w : World) : (Op.stringOp .add (digS a) (digS b)).run P w = .ok (.string (digS (a ++ b))) w := by
  rw [run_string_add (P := P) w _ _ (by rw [digS_size]; omega) (by rw [digS_size]; omega), digS_add]
end Go.Proofs.YtlomcmichbnkaaaGreatDoor
