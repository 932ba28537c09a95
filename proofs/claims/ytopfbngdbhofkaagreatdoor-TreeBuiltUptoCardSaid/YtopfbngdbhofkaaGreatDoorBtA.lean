/-
  The law's same and all: of events that are alike they say true.
-/
import Derived.Test.YtopfbngdbhofkaaGreatDoorItJ
namespace Go.Proofs.YtopfbngdbhofkaaGreatDoor
open Go.RowKit

set_option maxRecDepth 1000000 in
set_option maxHeartbeats 4000000 in
/-- an event and itself, wherever their attributes lie -/
theorem same_any (ev : Ev) (A B : Option Addr) (m c m2 c2 : Nat) (w : World) (hA : AttrsAt w A m ev.ats) (hB : AttrsAt w B m2 ev.ats) (hm : m ≤ 1048576) :
    Calls Tryz.prog 20 #[.agg (evC ev.kind ev.num ev.dep ev.name A m c ev.text ev.fr ev.tt), .agg (evC ev.kind ev.num ev.dep ev.name B m2 c2 ev.text ev.fr ev.tt)] w fun e w' => e = .returned (.bool true) ∧ Below w.heap.size w w' := by
  obtain ⟨kd, num, dep, name, ats, text, fr, tt⟩ := ev
  simp only at hA hB ⊢
  have hmm : m2 = m := by rw [hA.1, hB.1]
  subst hmm
  unfold evC
  go_enter Tryz.func20, Tryz.ntmps20
  go_wp2_with fail
  obtain ⟨W0, hW0⟩ : ∃ W0, (w.alloc (.cells #[.int .i64 kd, .int .i64 num, .int .i64 dep, .string (strL name), .slice A m2 c, .string (strL text), .int .i64 fr, .int .i64 tt] 50)).alloc (.cells #[.int .i64 kd, .int .i64 num, .int .i64 dep, .string (strL name), .slice B m2 c2, .string (strL text), .int .i64 fr, .int .i64 tt] 50) = W0 := ⟨_, rfl⟩
  have hbW : Below w.heap.size w W0 := by rw [← hW0]; exact ((Below.refl _ w).alloc (Nat.le_refl _) _).alloc (by simp) _
  have h4 : W0.cell? ⟨w.heap.size, 4, none⟩ = some (.slice A m2 c) := by rw [← hW0]; simp
  have h5 : W0.cell? ⟨w.heap.size + 1, 4, none⟩ = some (.slice B m2 c2) := by rw [← hW0]; simp
  have hsz : W0.heap.size = w.heap.size + 2 := by rw [← hW0]; simp
  rw [hW0]
  clear hW0
  have HBW := Lib.hid hbW
  have HAB := Lib.hid (⟨hA.below hbW, hB.below hbW⟩ : _ ∧ _)
  have HAL := Lib.hid hA.1
  clear hA hB hbW
  go_loopw [5] (fun iv wr => ∃ i : Nat, iv = .int .i64 i ∧ i ≤ m2 ∧ Below W0.heap.size W0 wr) (fun iv _ => m2 - (intOf iv).toNat)
  case atStart => exact ⟨0, rfl, Nat.zero_le _, Below.refl _ _⟩
  case round =>
    obtain ⟨i, rfl, hi, hbr⟩ := hrel
    have f4 := (hbr.cell (p := ⟨w.heap.size, 4, none⟩) (by simp only; omega)).trans h4
    have f5 := (hbr.cell (p := ⟨w.heap.size + 1, 4, none⟩) (by simp only; omega)).trans h5
    by_cases him : i < m2
    · obtain ⟨b1, o1, rfl, _, p1, q1⟩ := (HAB.out.1.below hbr).2 i (by have := HAL.out; omega)
      obtain ⟨b2, o2, rfl, _, p2, q2⟩ := (HAB.out.2.below hbr).2 i (by have := HAL.out; omega)
      have i1 : (0 : Int) ≤ (i : Int) := by omega
      have i2 : (i : Int) < (m2 : Int) := by omega
      have ew : IntKind.i64.wrap ((i : Int) + 1) = (i : Int) + 1 := IntWalk.i64_in _ (by omega)
      generalize strL (ats[i]'(by have := HAL.out; omega)).1 = x1 at *
      generalize strL (ats[i]'(by have := HAL.out; omega)).2 = x2 at *
      have HBR := Lib.hid hbr.drew
      clear hbr
      go_wp2_with fail
      go_region
      go_wp2_with fail
      go_roundw
      case rel => exact ⟨i + 1, by go_num, by omega, HBR.out⟩
      case measure => simp [intOf]; omega
    · have him2 : i = m2 := by omega
      subst him2
      have HBR := Lib.hid hbr
      clear hbr
      go_wp2_with fail
      go_ret
      exact ⟨rfl, HBW.out.trans (HBR.out.mono HBW.out.size)⟩
set_option maxRecDepth 1000000 in
set_option maxHeartbeats 4000000 in
/-- events and themselves, wherever they lie -/
theorem all_any (a b : Option Addr) (n c d : Nat) (evs : List Ev) (w : World) (hA : EvsAt w a n evs) (hB : EvsAt w b n evs) (hn : n ≤ 1048576) (hl : ∀ e ∈ evs, e.ats.length ≤ 1048576) :
    Calls Tryz.prog 16 #[.slice a n c, .slice b n d] w fun e w' => e = .returned (.bool true) ∧ Below w.heap.size w w' := by
  have HA := Lib.hid hA
  have HB := Lib.hid hB
  have HN : Hid (n = evs.length) := Lib.hid hA.1
  have HL := Lib.hid hl
  clear hA hB hl
  go_enter Tryz.func16, Tryz.ntmps16
  go_wp2_with fail
  go_loopw [5] (fun iv wr => ∃ i : Nat, iv = .int .i64 i ∧ i ≤ n ∧ Below w.heap.size w wr) (fun iv _ => n - (intOf iv).toNat)
  case atStart => exact ⟨0, rfl, Nat.zero_le _, Below.refl _ _⟩
  case round =>
    obtain ⟨i, rfl, hi, hbr⟩ := hrel
    by_cases hin : i < n
    · have hil : i < evs.length := by rw [← HN.out]; exact hin
      obtain ⟨b1, o1, A1, m1, c1, rfl, _, _, hA1, k1⟩ := HA.out.at8 i hil
      obtain ⟨b2, o2, A2, m2, c2, rfl, _, _, hA2, k2⟩ := HB.out.at8 i hil
      obtain ⟨e0, e1, e2, e3, e4, e5, e6, e7⟩ := k1 wr hbr
      obtain ⟨g0, g1, g2, g3, g4, g5, g6, g7⟩ := k2 wr hbr
      have hml : m1 ≤ 1048576 := by rw [hA1.1]; exact HL.out _ (List.getElem_mem hil)
      have i1 : (0 : Int) ≤ (i : Int) := by omega
      have i2 : (i : Int) < (n : Int) := by omega
      have ew : IntKind.i64.wrap ((i : Int) + 1) = (i : Int) + 1 := IntWalk.i64_in _ (by omega)
      have HSAME : Hid (∀ W, Below w.heap.size w W → Calls Tryz.prog 20 #[.agg (evC evs[i].kind evs[i].num evs[i].dep evs[i].name A1 m1 c1 evs[i].text evs[i].fr evs[i].tt), .agg (evC evs[i].kind evs[i].num evs[i].dep evs[i].name A2 m2 c2 evs[i].text evs[i].fr evs[i].tt)] W fun e w' => e = .returned (.bool true) ∧ Below W.heap.size W w') := Lib.hid fun W hW => same_any evs[i] A1 A2 m1 c1 m2 c2 W (hA1.below hW) (hA2.below hW) hml
      have HS : Hid (∀ W, Below w.heap.size w W → W.cell? ⟨b1, o1 + i * 8, none⟩ = some (.int .i64 evs[i].kind) ∧ W.cell? ⟨b1, o1 + i * 8 + 1, none⟩ = some (.int .i64 evs[i].num) ∧ W.cell? ⟨b1, o1 + i * 8 + 2, none⟩ = some (.int .i64 evs[i].dep) ∧ W.cell? ⟨b1, o1 + i * 8 + 3, none⟩ = some (.string (strL evs[i].name)) ∧ W.cell? ⟨b1, o1 + i * 8 + 4, none⟩ = some (.slice A1 m1 c1) ∧ W.cell? ⟨b1, o1 + i * 8 + 5, none⟩ = some (.string (strL evs[i].text)) ∧ W.cell? ⟨b1, o1 + i * 8 + 6, none⟩ = some (.int .i64 evs[i].fr) ∧ W.cell? ⟨b1, o1 + i * 8 + 7, none⟩ = some (.int .i64 evs[i].tt) ∧ W.cell? ⟨b2, o2 + i * 8, none⟩ = some (.int .i64 evs[i].kind) ∧ W.cell? ⟨b2, o2 + i * 8 + 1, none⟩ = some (.int .i64 evs[i].num) ∧ W.cell? ⟨b2, o2 + i * 8 + 2, none⟩ = some (.int .i64 evs[i].dep) ∧ W.cell? ⟨b2, o2 + i * 8 + 3, none⟩ = some (.string (strL evs[i].name)) ∧ W.cell? ⟨b2, o2 + i * 8 + 4, none⟩ = some (.slice A2 m2 c2) ∧ W.cell? ⟨b2, o2 + i * 8 + 5, none⟩ = some (.string (strL evs[i].text)) ∧ W.cell? ⟨b2, o2 + i * 8 + 6, none⟩ = some (.int .i64 evs[i].fr) ∧ W.cell? ⟨b2, o2 + i * 8 + 7, none⟩ = some (.int .i64 evs[i].tt) ∧ Below w.heap.size w W) := Lib.hid fun W hW => by
        obtain ⟨p0, p1, p2, p3, p4, p5, p6, p7⟩ := k1 W hW
        obtain ⟨q0, q1, q2, q3, q4, q5, q6, q7⟩ := k2 W hW
        exact ⟨p0, p1, p2, p3, p4, p5, p6, p7, q0, q1, q2, q3, q4, q5, q6, q7, hW⟩
      have HBR := Lib.hid hbr
      have HDR := hbr.drew
      clear hA1 hA2 k1 k2 hbr
      unfold evC at HSAME
      generalize evs[i] = ev at *
      go_wp2_with fail
      go_region_held3 (fun w' => w'.cell? ⟨b1, o1 + i * 8, none⟩ = some (.int .i64 ev.kind) ∧ w'.cell? ⟨b1, o1 + i * 8 + 1, none⟩ = some (.int .i64 ev.num) ∧ w'.cell? ⟨b1, o1 + i * 8 + 2, none⟩ = some (.int .i64 ev.dep) ∧ w'.cell? ⟨b1, o1 + i * 8 + 3, none⟩ = some (.string (strL ev.name)) ∧ w'.cell? ⟨b1, o1 + i * 8 + 4, none⟩ = some (.slice A1 m1 c1) ∧ w'.cell? ⟨b1, o1 + i * 8 + 5, none⟩ = some (.string (strL ev.text)) ∧ w'.cell? ⟨b1, o1 + i * 8 + 6, none⟩ = some (.int .i64 ev.fr) ∧ w'.cell? ⟨b1, o1 + i * 8 + 7, none⟩ = some (.int .i64 ev.tt) ∧ w'.cell? ⟨b2, o2 + i * 8, none⟩ = some (.int .i64 ev.kind) ∧ w'.cell? ⟨b2, o2 + i * 8 + 1, none⟩ = some (.int .i64 ev.num) ∧ w'.cell? ⟨b2, o2 + i * 8 + 2, none⟩ = some (.int .i64 ev.dep) ∧ w'.cell? ⟨b2, o2 + i * 8 + 3, none⟩ = some (.string (strL ev.name)) ∧ w'.cell? ⟨b2, o2 + i * 8 + 4, none⟩ = some (.slice A2 m2 c2) ∧ w'.cell? ⟨b2, o2 + i * 8 + 5, none⟩ = some (.string (strL ev.text)) ∧ w'.cell? ⟨b2, o2 + i * 8 + 6, none⟩ = some (.int .i64 ev.fr) ∧ w'.cell? ⟨b2, o2 + i * 8 + 7, none⟩ = some (.int .i64 ev.tt) ∧ Below w.heap.size w w') (first | exact HS.out _ ‹_› | exact HS.out _ HDR) (first | (go_at_call 20; (with_reducible refine (HSAME.out _ ‹_›).mono ?_); rintro e w3 ⟨rfl, hb3⟩; have hb4 := (‹Below w.heap.size w _›).trans (hb3.mono (‹Below w.heap.size w _›).size)))
      have HB4 := Lib.hid hb4
      clear hb4 hb3
      go_wp2_with fail
      go_roundw
      case rel => exact ⟨i + 1, by go_num, by omega, HB4.out⟩
      case measure => simp [intOf]; omega
    · have hi2 : i = n := by omega
      subst hi2
      have HBR := Lib.hid hbr
      clear hbr
      go_wp2_with fail
      go_ret
      exact ⟨rfl, HBR.out⟩
end Go.Proofs.YtopfbngdbhofkaaGreatDoor
