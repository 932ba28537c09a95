/-
  sync.Once, not yet done, in one goroutine: the lock is taken, the function runs, 'done' is stored, the lock is let go. (Turned from the guide's worked example Lazy.)
-/
import Derived.Test.YtlomcmichbnkaaaGreatDoorProg
import Derived.Test.YtlomcmichbnkaaaGreatDoorGenA
import Derived.RegionCalls
import Derived.Laws.LoneSync
import Derived.Laws.Pointers
import Derived.Defers
namespace Go.Proofs.YtlomcmichbnkaaaGreatDoor
open Go.RowKit

theorem disable (w : World) : (callFunc 73 #[]).run Tryz.prog w = .ok (.value (.tuple #[])) w := run_call_mark0 Tryz.func73 (by kernel_rfl) (by kernel_rfl) (by kernel_rfl) .disable (by kernel_rfl) w
theorem enable (w : World) : (callFunc 75 #[]).run Tryz.prog w = .ok (.value (.tuple #[])) w := run_call_mark0 Tryz.func75 (by kernel_rfl) (by kernel_rfl) (by kernel_rfl) .enable (by kernel_rfl) w
theorem acquire (a : Addr) (w : World) : (callFunc 76 #[.pointer (some a)]).run Tryz.prog w = .ok (.value (.tuple #[])) w := run_call_marked Tryz.func76 (by kernel_rfl) (by kernel_rfl) (by kernel_rfl) .acquire (by kernel_rfl) a w
theorem releaseMerge (a : Addr) (w : World) : (callFunc 78 #[.pointer (some a)]).run Tryz.prog w = .ok (.value (.tuple #[])) w := run_call_marked Tryz.func78 (by kernel_rfl) (by kernel_rfl) (by kernel_rfl) .releaseMerge (by kernel_rfl) a w

theorem store_deferred (a : Addr) (x : Value) (u : FrameMode) (w : World) (hc : w.cell? a = some x) (hz : w.frozen? a = false) :
    CallsD Tryz.prog 64 #[.pointer (some a), .bool true] u w fun e u' w' => u' = u ∧ (e = .returned (.tuple #[]) ∧ w' = w.drew.setCell a (.int .u32 1)) := by
  have hc' : w.drew.cell? a = some x := by go_simp
  have hz' : w.drew.frozen? a = false := by go_simp
  have hst := run_call_store (P := Tryz.prog) Tryz.func69 (by kernel_rfl) (by kernel_rfl) (by kernel_rfl) (by kernel_rfl) (k := .u32) (y := 1) hc' hz'
  go_enter_d Tryz.func64, Tryz.ntmps64
  go_wp2
  go_region_calls
  all_goals (go_end0; exact ⟨rfl, rfl⟩)

set_option maxRecDepth 100000 in
theorem unlock_deferred (a : Addr) (u : FrameMode) (w : World) (hc : w.cell? a = some (.int .i32 1)) (hz : w.frozen? a = false) :
    CallsD Tryz.prog 63 #[.pointer (some a)] u w fun e u' w' => u' = u ∧ (e = .returned (.tuple #[]) ∧ w' = w.setCell a (.int .i32 0)) := by
  have hd := disable
  have he := enable
  have hr := releaseMerge
  have hadd := run_call_add (P := Tryz.prog) Tryz.func79 (by kernel_rfl) (by kernel_rfl) (by kernel_rfl) .i32 (by kernel_rfl) (y := -1) (s := 0) hc hz (by simp [go_sem]; rfl)
  have hcv := run_convert_to_unsafe (P := Tryz.prog) (src := 143) (dst := 70) Tryz.underlying143 Tryz.underlying70 (by kernel_rfl) hc
  go_enter_d Tryz.func63, Tryz.ntmps63
  go_wp2
  go_end0
  go_wp2
  go_end0
  exact ⟨rfl, rfl⟩

set_option maxRecDepth 100000 in
theorem lock_free (a : Addr) (w : World) (hc : w.cell? a = some (.int .i32 0)) (hz : w.frozen? a = false) :
    Calls Tryz.prog 62 #[.pointer (some a)] w fun e w' => e = .returned (.tuple #[]) ∧ w' = w.setCell a (.int .i32 1) := by
  have hd := disable
  have he := enable
  have ha := acquire
  have hcas := run_call_cas_hit (P := Tryz.prog) Tryz.func74 (by kernel_rfl) (by kernel_rfl) (by kernel_rfl) .i32 (by kernel_rfl) (y := 1) hc hz
  have hc' : (w.setCell a (.int .i32 1)).cell? a = some (.int .i32 1) := World.cell?_setCell_same w a _ hc
  have hcv := run_convert_to_unsafe (P := Tryz.prog) (src := 143) (dst := 70) Tryz.underlying143 Tryz.underlying70 (by kernel_rfl) hc'
  go_enter Tryz.func62, Tryz.ntmps62
  go_wp2
  first | go_end0 | (simp only [Exit.inBlock, Exit.then]; refine bodyPost_ret (results_none rfl _ _ _) rfl ?_) | refine bodyPost_ret (results_none rfl _ _ _) rfl ?_
  go_wp2
  go_end0
  exact ⟨rfl, rfl⟩

set_option maxRecDepth 100000 in
set_option maxHeartbeats 1600000 in
/-- (*sync.Once).doSlow, not yet done and the lock free; what the function does is told by Q. -/
theorem doSlow_any (b : Nat) (first : Array Value) (x3 x4 : Value) (T : TypeId) (Q : World → Prop) (w : World)
    (hw : w.heap[b]? = some (.cells #[.int .u32 0, .int .i32 0, .int .u32 0, x3, x4] T (0, 0)))
    (hcall : Calls Tryz.prog 46 first (w.setCell ⟨b, 1, none⟩ (.int .i32 1)) fun e w2 => e = .returned (.tuple #[]) ∧ Q w2)
    (hQ : ∀ w2, Q w2 → ∃ y3 y4, w2.heap[b]? = some (.cells #[.int .u32 0, .int .i32 1, .int .u32 0, y3, y4] T (0, 0))) :
    Calls Tryz.prog 56 #[.pointer (some ⟨b, 0, none⟩),   .func (.func 46) first #[]] w fun e w' => e = .returned (.tuple #[]) ∧
      ∃ w2, Q w2 ∧ w' = (w2.drew.setCell ⟨b, 0, none⟩ (.int .u32 1)).setCell ⟨b, 1, none⟩ (.int .i32 0) := by
  have c0 := cell_heap (i := 0) hw
  have c1 := cell_heap (i := 1) hw
  have f1 := frozen_heap (i := 1) hw
  simp only [List.getElem?_toArray, List.getElem?_cons_zero, List.getElem?_cons_succ] at c0 c1
  have hl := run_call_load (P := Tryz.prog) Tryz.func61 (by kernel_rfl) (by kernel_rfl) (by kernel_rfl) .u32 (by kernel_rfl) (w := w.setCell ⟨b, 1, none⟩ (.int .i32 1)) (a := ⟨b, 0, none⟩) (x := 0) ((World.cell?_setCell_other _ ⟨b, 1, none⟩ ⟨b, 0, none⟩ _ (by simp)).trans c0)
  have hnot : ∀ (x : Bool) (w : World), (Op.unary .not (.bool x)).run Tryz.prog w = .ok (.bool (!x)) w := fun _ _ => rfl
  have HC := Lib.hid hcall
  have HQ := Lib.hid hQ
  clear hcall hQ
  go_enter_defers Tryz.func56, Tryz.ntmps56
  go_wp2_with (first | (go_at_call 62; refine (lock_free ⟨b, 1, none⟩ _ (by first | assumption | go_simp) (by first | assumption | go_simp)).mono ?_; rintro e w' ⟨rfl, rfl⟩) | (go_at_call 55; go_in))
  refine HC.out.mono ?_
  rintro e w2 ⟨rfl, hq⟩
  obtain ⟨y3, y4, h2⟩ := HQ.out w2 hq
  have HQ2 := Lib.hid hq
  clear hq hl c0 c1 f1 hw
  have H2 := Lib.hid h2
  clear h2
  go_wp2
  have h2 := H2.out
  have h3 := setCell_heap (i := 0) h2 (.int .u32 1)
  refine leaves_cons (f := 64) (args := #[.pointer (some ⟨b, 0, none⟩), .bool true]) (by simp) (by simp [go_sem]) ?_
  refine (store_deferred ⟨b, 0, none⟩ (.int .u32 0) .returning _ (by rw [cell_heap h2]; rfl) (frozen_heap h2)).mono ?_
  rintro e u' w'' ⟨rfl, rfl, rfl⟩
  refine leaves_cons (f := 63) (args := #[.pointer (some ⟨b, 1, none⟩)]) (by simp [settle]) (by simp [go_sem]) ?_
  refine (unlock_deferred ⟨b, 1, none⟩ _ _ (by have := setCell_heap (w := w2.drew) (i := 0) h2 (.int .u32 1); rw [cell_heap this]; rfl) (by have := setCell_heap (w := w2.drew) (i := 0) h2 (.int .u32 1); exact frozen_heap this)).mono ?_
  rintro e u' w'' ⟨rfl, rfl, rfl⟩
  simp [Leaves, settle, results, Tryz.results56]
  exact ⟨w2, HQ2, rfl⟩

set_option maxRecDepth 100000 in
set_option maxHeartbeats 1600000 in
/-- (*sync.Once).Do, not yet done. -/
theorem Do_any (b : Nat) (first : Array Value) (x3 x4 : Value) (T : TypeId) (Q : World → Prop) (w : World)
    (hw : w.heap[b]? = some (.cells #[.int .u32 0, .int .i32 0, .int .u32 0, x3, x4] T (0, 0)))
    (hcall : Calls Tryz.prog 46 first (w.setCell ⟨b, 1, none⟩ (.int .i32 1)) fun e w2 => e = .returned (.tuple #[]) ∧ Q w2)
    (hQ : ∀ w2, Q w2 → ∃ y3 y4, w2.heap[b]? = some (.cells #[.int .u32 0, .int .i32 1, .int .u32 0, y3, y4] T (0, 0))) :
    Calls Tryz.prog 45 #[.pointer (some ⟨b, 0, none⟩),   .func (.func 46) first #[]] w fun e w' => e = .returned (.tuple #[]) ∧
      ∃ w2, Q w2 ∧ w' = (w2.drew.setCell ⟨b, 0, none⟩ (.int .u32 1)).setCell ⟨b, 1, none⟩ (.int .i32 0) := by
  have c0 := cell_heap (i := 0) hw
  simp only [List.getElem?_toArray, List.getElem?_cons_zero] at c0
  have hl := run_call_load (P := Tryz.prog) Tryz.func61 (by kernel_rfl) (by kernel_rfl) (by kernel_rfl) .u32 (by kernel_rfl) (w := w) (a := ⟨b, 0, none⟩) (x := 0) c0
  have hnot : ∀ (x : Bool) (w : World), (Op.unary .not (.bool x)).run Tryz.prog w = .ok (.bool (!x)) w := fun _ _ => rfl
  have HS := Lib.hid (doSlow_any b first x3 x4 T Q w hw hcall hQ)
  clear hcall hQ hw c0
  go_enter Tryz.func45, Tryz.ntmps45
  go_wp2_with (first | (go_at_call 56; refine HS.out.mono ?_; rintro e w' ⟨rfl, hq⟩) | (go_at_call 55; go_in))
  go_end0
  exact ⟨rfl, hq⟩
end Go.Proofs.YtlomcmichbnkaaaGreatDoor
