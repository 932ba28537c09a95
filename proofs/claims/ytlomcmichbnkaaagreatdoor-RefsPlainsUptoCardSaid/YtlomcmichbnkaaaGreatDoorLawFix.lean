/-
  gimletlaw05.fixed: what it asks is so.
-/
import Derived.Test.YtlomcmichbnkaaaGreatDoorText
import Derived.Test.YtlomcmichbnkaaaGreatDoorRefsC
import Derived.Lib.SlBytesConst
namespace Go.Proofs.YtlomcmichbnkaaaGreatDoor
open Go.RowKit

def fixL : List UInt8 := [38, 35, 120, 52, 49, 59]
theorem readF_fix : readF fixL = (65, 6, 0) := by decide +kernel
theorem replS_fix : replS textPs ⟨#[60]⟩ = ⟨#[38, 108, 116, 59]⟩ := by decide +kernel
theorem sl_new {w : World} {g : Nat} {l : List UInt8} {e : TypeId} {p : Nat × Nat} (h : w.heap[g]? = some (.cells (u8s l).toArray e p)) : Sl w (some ⟨g, 0, none⟩) l.length (u8s l) :=
  ⟨(u8s_length l).symm, fun i hi => ⟨g, 0, rfl, heap_lt h, by rw [cell_heap h, Nat.zero_add]; simp [hi]⟩⟩

theorem sl_fix (w : World) (p : Nat × Nat) : Sl (w.alloc (.cells #[.int .u8 38, .int .u8 35, .int .u8 120, .int .u8 52, .int .u8 49, .int .u8 59] 5 p)) (some ⟨w.heap.size, 0, none⟩) 6 (u8s fixL) := by
  have e : (#[.int .u8 38, .int .u8 35, .int .u8 120, .int .u8 52, .int .u8 49, .int .u8 59] : Array Value) = (u8s fixL).toArray := by simp [u8s, fixL]
  rw [e]
  exact sl_new (l := fixL) (heap_alloc_new w _)

set_option maxRecDepth 100000 in
set_option maxHeartbeats 1600000 in
theorem fixed_any (w : World) (hR : RangesAt w 2) :
    Calls Tryz.prog 6 #[] w fun e w' => e = .returned (.bool true) ∧ Below w.heap.size w w' := by
  have HR := Lib.hid hR
  clear hR
  have kc := fun (w : World) (C : Array Value) (n c : Nat) => Lib.run_convert_bytes_const (P := Tryz.prog) w 31 5 C n c Tryz.underlying31 Tryz.underlying5
  have HT := Lib.hid replS_fix
  have HRD : Hid (∀ p : Nat × Nat, Calls Tryz.prog 12 #[.slice (some ⟨w.heap.size, 0, none⟩) 6 6] (w.alloc (.cells #[.int .u8 38, .int .u8 35, .int .u8 120, .int .u8 52, .int .u8 49, .int .u8 59] 5 p)) fun e w' => Ret3 e (65, 6, 0) ∧ Below w.heap.size w w') := Lib.hid fun p => by
    have hb := (Below.refl w.heap.size w).alloc (Nat.le_refl _) (.cells #[.int .u8 38, .int .u8 35, .int .u8 120, .int .u8 52, .int .u8 49, .int .u8 59] 5 p)
    refine (Read_any (some ⟨w.heap.size, 0, none⟩) 6 6 fixL _ (sl_fix w p) (by decide) (by decide) (HR.out.below hb)).mono ?_
    rw [readF_fix]
    rintro e w1 ⟨he, hb1⟩
    exact ⟨he, Below.tr hb hb1⟩
  have HTX : Hid (∀ w : World, Calls Tryz.prog 17 #[.string ⟨#[60]⟩] w fun e w' => e = .returned (.string ⟨#[38, 108, 116, 59]⟩) ∧ Below w.heap.size w w') := Lib.hid fun w => by
    refine (Text_any _ w (by decide)).mono ?_
    rw [replS_fix]
    exact fun _ _ h => h
  go_enter Tryz.func6, Tryz.ntmps6
  go_wp2_with (first | (go_at_call 12; go_must (refine (HRD.out _).mono ?_); rintro e w1 ⟨rfl, hb1⟩) | (go_at_call 17; go_must (refine (HTX.out _).mono ?_); rintro e w2 ⟨rfl, hb2⟩))
  go_ret
  exact ⟨rfl, Below.tr hb1 hb2⟩
end Go.Proofs.YtlomcmichbnkaaaGreatDoor
