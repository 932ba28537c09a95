/-
  gimletlaw05.RefsWrites: the walk.
-/
import Derived.Test.YthmngbbhbjkgkaaDoorRef05W
import Derived.Test.YthmngbbhbjkgkaaDoorLawFix
namespace Go.Proofs.YthmngbbhbjkgkaaDoor
open Go.RowKit

theorem digS_data (s : ByteArray) : digS s.data.toList = s := by
  apply ByteArray.ext
  simp [digS]
theorem TextL_any (l : List UInt8) (w : World) (h : l.length ≤ 1048576) :
    Calls Tryd.prog 15 #[.string (digS l)] w fun e w' => e = .returned (.string (digS (replL textPs l))) ∧ Below w.heap.size w w' :=
  Text_any (digS l) w (by rw [digS_size]; omega)
theorem ValueL_any (l : List UInt8) (w : World) (h : l.length ≤ 1048576) :
    Calls Tryd.prog 17 #[.string (digS l)] w fun e w' => e = .returned (.string (digS (replL valuePs l))) ∧ Below w.heap.size w w' :=
  Value_any (digS l) w (by rw [digS_size]; omega)

set_option maxRecDepth 100000 in
set_option maxHeartbeats 4000000 in
theorem writes_any (s : ByteArray) (hs : s.size ≤ 1048576) (w : World) (hR : RangesAt w 0) :
    Calls Tryd.prog 7 #[.string s] w fun e w' => e = .returned (.bool true) ∧ Below w.heap.size w w' := by
  rw [← digS_data s]
  have hl : s.data.toList.length ≤ 1048576 := by rw [Array.length_toList]; exact hs
  generalize s.data.toList = l at *
  clear hs
  have HR := Lib.hid hR
  have HT := Lib.hid (fun w => TextL_any l w hl)
  have HV := Lib.hid (fun w => ValueL_any l w hl)
  have HT5 := Lib.hid (fun w => Text5_any l hl w)
  have HV5 := Lib.hid (fun w => Value5_any l hl w)
  generalize digS (replL textPs l) = t at *
  generalize digS (replL valuePs l) = v at *
  clear hR hl
  go_enter Tryd.func7, Tryd.ntmps7
  go_wp2_with fail
  refine (fixed_any w HR.out).mono ?_
  rintro e w1 ⟨rfl, hb1⟩
  go_wp2_with fail
  (with_reducible refine (HT.out _).mono ?_)
  rintro e w2 ⟨rfl, hb2⟩
  have b2 := hb1.trans (hb2.mono hb1.size)
  go_wp2_with fail
  (with_reducible refine (HT5.out _).mono ?_)
  rintro e w3 ⟨rfl, hb3⟩
  have b3 := b2.trans (hb3.mono b2.size)
  go_wp2_with fail
  (with_reducible refine (HV.out _).mono ?_)
  rintro e w4 ⟨rfl, hb4⟩
  have b4 := b3.trans (hb4.mono b3.size)
  go_wp2_with fail
  (with_reducible refine (HV5.out _).mono ?_)
  rintro e w5 ⟨rfl, hb5⟩
  have b5 := b4.trans (hb5.mono b4.size)
  go_wp2_with fail
  go_ret
  exact ⟨rfl, b5⟩
end Go.Proofs.YthmngbbhbjkgkaaDoor
