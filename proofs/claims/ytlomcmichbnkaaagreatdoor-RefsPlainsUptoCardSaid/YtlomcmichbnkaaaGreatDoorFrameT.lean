/-
  The frame of a law over chars.ranges and the two tables of unicode/utf8: a world for the witness, the variables laid in it.
-/
import Derived.Test.YtlomcmichbnkaaaGreatDoorFrameR
import Derived.Test.YtlomcmichbnkaaaGreatDoorValid
import Derived.PinnedBridge
import Derived.Stop.LaidErr
namespace Go.Proofs.YtlomcmichbnkaaaGreatDoor
open Go.ChangeShapes Go.WideShapes Go.ChangeAt Go.RowKit

noncomputable def laidWorld3 (os : Os) : World :=
  let N := (World.settled Tryz.prog os).heap.size
  let w0 := World.holding Tryz.prog os ⟨#[.cells (flat' (rng 0)) 63, .cells (flat' (rng 1)) 63, .cells (flat' (rng 2)) 63, .cells (flat' (rng 3)) 63, .cells (flat' (rng 4)) 63, .cells (flat' (rng 5)) 63], #[], []⟩
  { w0 with heap := ((w0.heap.modify 2 fun
      | .cells _ t frozen => .cells #[.slice (some ⟨N, 0, none⟩) 5 5, .slice (some ⟨N + 1, 0, none⟩) 3 3, .slice (some ⟨N + 2, 0, none⟩) 15 15, .slice (some ⟨N + 3, 0, none⟩) 18 18, .slice (some ⟨N + 4, 0, none⟩) 1 1, .slice (some ⟨N + 5, 0, none⟩) 3 3] t frozen
      | o => o).modify 0 fun
      | .cells _ t frozen => .cells ((List.range 256).map fun b => Value.int .u8 (Lib.firstT b)).toArray t frozen
      | o => o).modify 1 fun
      | .cells _ t frozen => .cells ((List.range 16).flatMap fun i => [Value.int .u8 (Lib.accLo i), Value.int .u8 (Lib.accHi i)]).toArray t frozen
      | o => o }
set_option maxRecDepth 100000 in
theorem laid_met3 (os : Os) (args : Array Value) : laidMet Tryz.prog [("unicode/utf8.acceptRanges", Rows.laid_unicode_utf8_acceptRanges), ("gimlet/chars.ranges", Rows.laid_gimlet_chars_ranges), ("unicode/utf8.first", Rows.laid_unicode_utf8_first)] ((laidWorld3 os).forCall (fun _ _ => 0) ⟨#[], args, []⟩).memory :=
  laidMet_of_run' 8 (by kernel_rfl) (by kernel_rfl)
theorem acc_same : (Rows.laid_unicode_utf8_acceptRanges : DataW Unit) = Lib.acceptData := by kernel_rfl
theorem first_same : Rows.laid_unicode_utf8_first = Lib.firstData := Pinned.utf8First_eq
theorem u8extra : U8Extra Tryz.prog validRen := ⟨by kernel_rfl, by kernel_rfl, by kernel_rfl, by kernel_rfl, by kernel_rfl, by kernel_rfl, by kernel_rfl⟩
theorem at_laid3 {W : World} (hL : laidMet Tryz.prog [("unicode/utf8.acceptRanges", Rows.laid_unicode_utf8_acceptRanges), ("gimlet/chars.ranges", Rows.laid_gimlet_chars_ranges), ("unicode/utf8.first", Rows.laid_unicode_utf8_first)] W) : RangesAt W 2 ∧ Lib.Utf8Tabs 0 1 W := by
  refine ⟨?_, ?_⟩
  · have h := hL.tail
    rw [laid_same] at h
    exact ranges_of_laid h
  · rw [acc_same, first_same] at hL
    exact utf8Tabs_of_readsT u8types u8extra (Lib.laidMet.reads hL (.tail _ (.tail _ (.head _)))) (Lib.laidMet.reads hL (.head _))
end Go.Proofs.YtlomcmichbnkaaaGreatDoor
