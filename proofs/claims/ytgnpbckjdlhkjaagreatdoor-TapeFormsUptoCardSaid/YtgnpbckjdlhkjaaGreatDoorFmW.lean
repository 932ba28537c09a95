/-
  gimletlaw21.awake.
-/
import Derived.Test.YtgnpbckjdlhkjaaGreatDoorFmL
namespace Go.Proofs.YtgnpbckjdlhkjaaGreatDoor
open Go.RowKit

theorem AttrsAt_nil (w : World) : AttrsAt w none 0 [] := ⟨rfl, fun i h => by simp at h⟩
theorem add1 (R tb : Nat) (w : World) (h : TapeAt w R tb [] 0 0) :
    Calls Tryz.prog 9 #[.pointer (some ⟨tb, 0, none⟩), .agg #[.int .i64 0, .int .i64 0, .int .i64 1, .string ⟨#[97]⟩, .slice none 0 0, .string ⟨#[]⟩, .int .i64 0, .int .i64 0]] w fun e w' => e = .returned (.int .i64 0) ∧ TapeAt w' R tb [60, 97, 62] 0 0 ∧ Only R tb w.heap.size w w' :=
  tape_add R tb [] 0 0 0 0 1 0 0 [97] [] none 0 0 [60, 97, 62] w h (fun w1 _ => Event_any 0 0 1 0 0 [97] [] none 0 0 [] w1 (AttrsAt_nil w1) (by decide) (by decide) (by decide) (fun p hp => by cases hp)) (by decide) _ (h.under rfl)
theorem add2 (R tb : Nat) (w : World) (h : TapeAt w R tb [60, 97, 62] 0 0) :
    Calls Tryz.prog 9 #[.pointer (some ⟨tb, 0, none⟩), .agg #[.int .i64 1, .int .i64 1, .int .i64 2, .string ⟨#[]⟩, .slice none 0 0, .string ⟨#[120, 60]⟩, .int .i64 0, .int .i64 0]] w fun e w' => e = .returned (.int .i64 0) ∧ TapeAt w' R tb [60, 97, 62, 120, 38, 108, 116, 59] 0 0 ∧ Only R tb w.heap.size w w' :=
  tape_add R tb [60, 97, 62] 0 0 1 1 2 0 0 [] [120, 60] none 0 0 [120, 38, 108, 116, 59] w h (fun w1 _ => Event_any 1 1 2 0 0 [] [120, 60] none 0 0 [] w1 (AttrsAt_nil w1) (by decide) (by decide) (by decide) (fun p hp => by cases hp)) (by decide) _ (h.under rfl)
theorem place1 (R tb : Nat) (w : World) (h : TapeAt w R tb [60, 97, 62] 0 0) :
    Calls Tryz.prog 8 #[.pointer (some ⟨tb, 0, none⟩)] w fun e w' => e = .returned (.int .i64 3) ∧ ∃ d, w' = w.drewN d := tape_place R tb _ 0 0 w h
theorem held1 (R tb : Nat) (w : World) (h : TapeAt w R tb [60, 97, 62, 120, 38, 108, 116, 59] 0 0) :
    Calls Tryz.prog 13 #[.pointer (some ⟨tb, 0, none⟩)] w fun e w' => e = .returned (.int .i64 8) ∧ ∃ d, w' = w.drewN d := tape_held R tb _ 0 0 w h
theorem cut1 (R tb : Nat) (w : World) (h : TapeAt w R tb [60, 97, 62, 120, 38, 108, 116, 59] 0 0) :
    Calls Tryz.prog 10 #[.pointer (some ⟨tb, 0, none⟩), .int .i64 0, .int .i64 8] w fun e w' => e = .returned (.tuple #[.string ⟨#[60, 97, 62, 120, 38, 108, 116, 59]⟩, .int .i64 0]) ∧ ∃ d, w' = w.drewN d :=
  tape_cut R tb _ 0 0 0 8 w h

set_option maxRecDepth 100000 in
set_option maxHeartbeats 4000000 in
theorem awake21_any (w : World) :
    Calls Tryz.prog 5 #[] w fun e w' => e = .returned (.bool true) ∧ Below w.heap.size w w' := by
  have HN := Lib.hid (tape_new w)
  go_enter Tryz.func5, Tryz.ntmps5
  go_wp2_with fail
  (with_reducible refine HN.out.mono ?_)
  rintro e w1 ⟨rfl, rfl⟩
  have h0 : TapeAt (w.alloc (.cells #[.slice none 0 0, .int .i64 0, .int .i64 0] 46)) (w.heap.size + 1) w.heap.size [] 0 0 := by
    have h := tapeAt_new (w := w) (w' := w.alloc (.cells #[.slice none 0 0, .int .i64 0, .int .i64 0] 46)) (by simp) (heap_alloc_new w _)
    simpa using h
  have o0 : Below w.heap.size w (w.alloc (.cells #[.slice none 0 0, .int .i64 0, .int .i64 0] 46)) := (Below.refl _ _).alloc (Nat.le_refl _) _
  generalize w.alloc (.cells #[.slice none 0 0, .int .i64 0, .int .i64 0] 46) = W at *
  have H0 := Lib.hid h0
  have hB : ∀ W' W2 U U2, Only (w.heap.size + 1) w.heap.size U W W' → Only (w.heap.size + 1) w.heap.size U2 W' W2 → Below w.heap.size w W2 := fun W' W2 U U2 h h2 => (o0.trans (h.below (Nat.le_refl _) (by omega))).trans (h2.below (Nat.le_refl _) (by omega))
  have HB := Lib.hid hB
  clear h0 hB o0
  go_wp2_with fail
  refine (add1 _ _ _ H0.out).mono ?_
  rintro e w2 ⟨rfl, h2, o2⟩
  have H2 := Lib.hid h2
  have O2 := Lib.hid o2
  clear h2 o2
  go_wp2_with fail
  refine (place1 _ _ _ H2.out).mono ?_
  rintro e w3 ⟨rfl, d, rfl⟩
  go_wp2_with fail
  refine (add2 _ _ _ (H2.out.drewN d)).mono ?_
  rintro e w4 ⟨rfl, h4, o4⟩
  have H4 := Lib.hid h4
  have O4 := Lib.hid o4
  clear h4 o4
  go_wp2_with fail
  refine (cut1 _ _ _ H4.out).mono ?_
  rintro e w5 ⟨rfl, d5, rfl⟩
  go_wp2_with fail
  refine (held1 _ _ _ (H4.out.drewN d5)).mono ?_
  rintro e w6 ⟨rfl, d6, rfl⟩
  go_wp2_with fail
  go_ret
  exact ⟨rfl, HB.out _ _ _ _ (O2.out.drewN d) (O4.out.drewN (d5 + d6))⟩
end Go.Proofs.YtgnpbckjdlhkjaaGreatDoor
