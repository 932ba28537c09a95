/-
  (*strings.Builder).WriteRune over a builder that the call has made.
-/
import Derived.Test.YtlomcmichbnkaaaGreatDoorBuild
import Derived.Test.YtlomcmichbnkaaaGreatDoorMendP
import Derived.Shelf.Utf8.AppendRune
import Derived.IntWalk
namespace Go.Proofs.YtlomcmichbnkaaaGreatDoor
open Go.RowKit

theorem cells_enc (r : Nat) (h : chr r) : Lib.runeCells r = u8s (encU r) := by
  have key : Lib.encodeRuneZ r = (encN r).map fun x : Nat => (x : Int) := by
    unfold chr at h
    unfold Lib.encodeRuneZ encN
    by_cases h1 : r < 128
    · rw [if_pos (by omega), if_pos h1]; rfl
    · rw [if_neg (by omega), if_neg h1]
      by_cases h2 : r < 2048
      · rw [if_pos (by omega), if_pos h2]; simp
      · rw [if_neg (by omega), if_neg h2]
        by_cases h3 : r < 65536
        · rw [if_pos (by omega), if_pos h3]; simp
        · rw [if_neg (by omega), if_pos (by omega), if_neg h3]; simp
  unfold Lib.runeCells u8s encU
  rw [key, List.map_map, List.map_map]
  apply List.map_congr_left
  intro x hx
  simp only [Function.comp]
  rw [toNat_of x (encN_byte r (chr_le h) x hx)]

set_option maxHeartbeats 2000000 in
set_option maxRecDepth 100000 in
theorem brune_any (B b : Nat) (l : List UInt8) (r : Nat) (hr : chr r) (w : World) (h : IsB B b (u8s l) w) (hlen : l.length + 4 ≤ 140737488355328) (hBw : B ≤ w.heap.size) :
    Calls Tryz.prog 13 #[.pointer (some ⟨b, 0, none⟩), .int .i32 r] w fun e w' => (∃ n : Int, e = .returned (.tuple #[.int .i64 n, .nilIface])) ∧ IsB B b (u8s (l ++ encU r)) w' ∧ Below B w w' := by
  have hr1 := chr_le hr
  have HC := Lib.hid (cells_enc r hr)
  have h1 := (Lib.runeCells_le (r : Int)).2
  have HL := Lib.hid h1
  have hul : (u8s l).length = l.length := u8s_length l
  have HUL := Lib.hid hul
  clear hul h1 hr
  go_enter Tryz.func13, Tryz.ntmps13
  go_wp2_with fail
  refine (copy_any B b (u8s l) w h).mono ?_
  rintro e w1 ⟨rfl, h1, hb1⟩
  obtain ⟨hB, v, hbk, hown, hne⟩ := h1
  have c0 : w1.cell? ⟨b, 0, none⟩ = some (.pointer (some ⟨b, 0, none⟩)) := by rw [Lib.cell_of_heap hbk]; rfl
  have c1 : w1.cell? ⟨b, 1, none⟩ = some v := by rw [Lib.cell_of_heap hbk]; rfl
  obtain ⟨ao, cap, hv⟩ : ∃ ao cap, v = .slice ao l.length cap := by
    rcases hown.2 with ⟨hv, h0⟩ | ⟨g, cap, cur, fz, hv, _⟩
    · rw [HUL.out] at h0
      exact ⟨_, _, by rw [hv, h0]⟩
    · rw [HUL.out] at hv
      exact ⟨_, _, hv⟩
  have hlt : b < w1.heap.size := heap_lt hbk
  have hsz1 := hb1.size
  have HA := Lib.hid (Any.utf8_AppendRune_row Tryz.lays242 (by kernel_rfl) B v (u8s l).length (u8s l) r (by omega) (by omega) w1 hown (by rw [HUL.out]; omega) (by omega))
  have HOLT := Lib.hid hown.lt
  have HBK := Lib.hid hbk
  have HNE := Lib.hid hne
  have HB1 := Lib.hid hb1
  clear hbk hne hb1 hown h
  subst hv
  go_wp2_with fail
  refine HA.out.mono ?_
  rintro e w2 ⟨v', rfl, hown', o, hgrow⟩
  have hb2 : w2.heap[b]? = some (.cells #[.pointer (some ⟨b, 0, none⟩), .slice ao l.length cap] 33 (0, 0)) := by
    rw [hgrow.block b (by simp; omega) (fun e => HNE.out e.symm), Lib.alloc_old w1 _ b hlt]
    exact HBK.out
  have d0 : w2.cell? ⟨b, 0, none⟩ = some (.pointer (some ⟨b, 0, none⟩)) := by rw [Lib.cell_of_heap hb2]; rfl
  have d1 : w2.cell? ⟨b, 1, none⟩ = some (.slice ao l.length cap) := by rw [Lib.cell_of_heap hb2]; rfl
  have f1 : w2.frozen? ⟨b, 1, none⟩ = false := Lib.frozen_of_heap hb2 1
  obtain ⟨ao', n', cap', rfl⟩ : ∃ ao n' cap, v' = .slice ao n' cap := by
    rcases hown'.2 with ⟨hv, _⟩ | ⟨g, cap, cur, fz, hv, _⟩
    · exact ⟨_, _, _, hv⟩
    · exact ⟨_, _, _, hv⟩
  have HOWN := Lib.hid hown'
  have HG := Lib.hid hgrow
  have HB2 := Lib.hid hb2
  clear hown' hgrow hb2 c0 c1
  go_wp2_with fail
  go_ret2
  have hcells : u8s l ++ Lib.runeCells r = u8s (l ++ encU r) := by rw [HC.out]; simp [u8s]
  refine ⟨⟨_, rfl⟩, .inr ?_, ?_⟩
  · rw [← hcells]
    exact Lib.BuilderAtF.put (T := 33) (e := 5) hB HB2.out (bs' := u8s l ++ Lib.runeCells r) (by have h := HOWN.out; rw [List.length_append]; exact h) (by decide)
  · exact ((HB1.out.alloc (by omega) _).grown HG.out (by simp; omega) (fun k hk => (HOLT.out k hk).1)).setCell (p := ⟨b, 1, none⟩) hB _
#print axioms brune_any
end Go.Proofs.YtlomcmichbnkaaaGreatDoor
