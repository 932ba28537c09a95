/-
  gimletlaw05.RefsPlains: the walk.
-/
import Derived.Test.YtlomcmichbnkaaaGreatDoorPlain5
namespace Go.Proofs.YtlomcmichbnkaaaGreatDoor
open Go.RowKit

set_option maxRecDepth 100000 in
set_option maxHeartbeats 4000000 in
theorem plains_any (l : List UInt8) (hl : l.length ≤ 1048576) (w : World) (hR : RangesAt w 2) (hT : Lib.Utf8Tabs 0 1 w) :
    Calls Tryz.prog 3 #[.string (strU l)] w fun e w' => e = .returned (.bool true) ∧ Below w.heap.size w w' := by
  have HP1 : Hid (∀ W, Below w.heap.size w W → Calls Tryz.prog 4 #[.string (strU l)] W fun e w' => RetP e (plainA l) ∧ Below W.heap.size W w') := Lib.hid fun W hW => Plain_any l (by omega) W (hR.below hW) (Utf8Tabs_below hT hW)
  have HP2 : Hid (∀ W, Calls Tryz.prog 5 #[.string (strU l)] W fun e w' => RetP e (plainA l) ∧ Below W.heap.size W w') := Lib.hid fun W => by
    rw [← plain_same]
    exact Plain5_any l hl W
  have HFX : Hid (∀ W, Below w.heap.size w W → Calls Tryz.prog 6 #[] W fun e w' => e = .returned (.bool true) ∧ Below W.heap.size W w') := Lib.hid fun W hW => fixed_any W (hR.below hW)
  clear hR hT
  generalize plainA l = t at *
  obtain ⟨t1, t2⟩ := t
  have HP1 : Hid (∀ W, Below w.heap.size w W → Calls Tryz.prog 4 #[.string (strU l)] W fun e w' => e = .returned (.tuple #[.string (strU t1), .int .i64 t2]) ∧ Below W.heap.size W w') := HP1
  have HP2 : Hid (∀ W, Calls Tryz.prog 5 #[.string (strU l)] W fun e w' => e = .returned (.tuple #[.string (strU t1), .int .i64 t2]) ∧ Below W.heap.size W w') := HP2
  generalize strU l = S at *
  generalize strU t1 = T at *
  have hTT : (T.toList == T.toList) = true := by simp
  have h22 : (t2 == t2) = true := by simp
  go_enter Tryz.func3, Tryz.ntmps3
  go_wp2_with fail
  (with_reducible refine (HP1.out _ (Below.refl _ _)).mono ?_)
  rintro e w2 ⟨rfl, hb2⟩
  go_wp2_with fail
  (with_reducible refine (HP2.out _).mono ?_)
  rintro e w3 ⟨rfl, hb3⟩
  have hb3 := hb2.trans (hb3.mono hb2.size)
  clear hb2
  go_wp2_with fail
  (with_reducible refine (HFX.out _ hb3).mono ?_)
  rintro e w4 ⟨rfl, hb4⟩
  have hb4 := hb3.trans (hb4.mono hb3.size)
  clear hb3
  go_wp2_with fail
  go_ret
  exact ⟨rfl, hb4⟩
#print axioms plains_any
end Go.Proofs.YtlomcmichbnkaaaGreatDoor
