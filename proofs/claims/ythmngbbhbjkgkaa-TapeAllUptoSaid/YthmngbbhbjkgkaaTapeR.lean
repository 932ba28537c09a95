/-
  gimletref21.Tape: Cut, Drop.
-/
import Derived.Test.YthmngbbhbjkgkaaTapeC
namespace Go.Proofs.Ythmngbbhbjkgkaa
open Go.RowKit

/-- the document's tape in block mb -/
def RefAt (w : World) (mb : Nat) (all : List UInt8) (front : Nat) : Prop := w.heap[mb]? = some (.cells #[.string (strL all), .int .i64 front] 27 (0, 0))
theorem extL (l : List UInt8) (i j : Nat) : (strL l).extract i j = strL ((l.drop i).take (j - i)) := by rw [strL, ByteArray.extract_mk]; rfl

set_option maxRecDepth 100000 in
set_option maxHeartbeats 4000000 in
theorem ref_cut (mb : Nat) (all : List UInt8) (front : Nat) (from' to' : Int) (w : World) (h : RefAt w mb all front) :
    Calls Try.prog 11 #[.pointer (some ⟨mb, 0, none⟩), .int .i64 from', .int .i64 to'] w fun e w' => RetCut e (cutW all front from' to') ∧ w = w' := by
  have c0 : w.cell? ⟨mb, 0, none⟩ = some (.string (strL all)) := by rw [cell_heap h]; rfl
  have c1 : w.cell? ⟨mb, 1, none⟩ = some (.int .i64 front) := by rw [cell_heap h]; rfl
  have hz : (strL all).size = all.length := strL_size all
  obtain ⟨N, hN⟩ : ∃ N, N = all.length := ⟨_, rfl⟩
  rw [← hN] at hz
  clear h
  by_cases hA : from' < front
  · have e : cutW all front from' to' = ([], 2) := by unfold cutW; rw [if_pos (.inl hA)]
    rw [e]
    clear e hN
    go_enter Try.func11, Try.ntmps11
    go_wp2_with fail
    go_ret2
    exact ⟨rfl, rfl⟩
  · have hA' : (front : Int) ≤ from' := by omega
    by_cases hB : (N : Int) < to'
    · have e : cutW all front from' to' = ([], 2) := by unfold cutW; rw [if_pos (.inr (.inl (by omega)))]
      rw [e]
      clear e hN hA
      go_enter Try.func11, Try.ntmps11
      go_wp2_with fail
      go_ret2
      exact ⟨rfl, rfl⟩
    · have hB' : to' ≤ (N : Int) := by omega
      by_cases hC : to' < from'
      · have e : cutW all front from' to' = ([], 2) := by unfold cutW; rw [if_pos (.inr (.inr hC))]
        rw [e]
        clear e hN hA hB
        go_enter Try.func11, Try.ntmps11
        go_wp2_with fail
        go_ret2
        exact ⟨rfl, rfl⟩
      · have hC' : from' ≤ to' := by omega
        obtain ⟨i, rfl⟩ : ∃ i : Nat, from' = i := ⟨from'.toNat, by omega⟩
        obtain ⟨j, rfl⟩ : ∃ j : Nat, to' = j := ⟨to'.toNat, by omega⟩
        have e : cutW all front i j = ((all.drop i).take (j - i), 0) := by
          unfold cutW; rw [if_neg (by rintro (h | h | h) <;> omega)]; rfl
        rw [e]
        have hx := extL all i j
        have hji : decide ((j : Int) < (i : Int)) = false := by simp; omega
        have hji2 : decide (j < i) = false := by simp; omega
        have hjN : decide (N < j) = false := by simp; omega
        have hif : decide (i < front) = false := by simp; omega
        have hjN2 : j ≤ N := by omega
        have hij2 : i ≤ j := by omega
        clear e hN hA hB hC
        go_enter Try.func11, Try.ntmps11
        go_wp2_with fail
        go_ret2
        exact ⟨rfl, rfl⟩

def RetRDrop (mb : Nat) (all : List UInt8) (front : Nat) (to' : Int) (w : World) (e : Ending) (w' : World) : Prop :=
  e = .returned (.int .i64 (dropW all front to').1) ∧ RefAt w' mb all (dropW all front to').2 ∧ w.heap.size = w'.heap.size ∧ (∀ k, k ≠ mb → w'.heap[k]? = w.heap[k]?) ∧ w'.os = w.os ∧ w'.tape = w.tape ∧ w'.output = w.output
set_option maxRecDepth 100000 in
set_option maxHeartbeats 4000000 in
theorem ref_drop (mb : Nat) (all : List UInt8) (front : Nat) (to' : Int) (w : World) (h : RefAt w mb all front) :
    Calls Try.prog 13 #[.pointer (some ⟨mb, 0, none⟩), .int .i64 to'] w fun e w' => RetRDrop mb all front to' w e w' := by
  have c0 : w.cell? ⟨mb, 0, none⟩ = some (.string (strL all)) := by rw [cell_heap h]; rfl
  have c1 : w.cell? ⟨mb, 1, none⟩ = some (.int .i64 front) := by rw [cell_heap h]; rfl
  have f1 : w.frozen? ⟨mb, 1, none⟩ = false := frozen_heap h
  have hz : (strL all).size = all.length := strL_size all
  obtain ⟨N, hN⟩ : ∃ N, N = all.length := ⟨_, rfl⟩
  rw [← hN] at hz
  have H := Lib.hid h
  clear h
  by_cases hB : (N : Int) < to'
  · have e : dropW all front to' = (2, front) := by unfold dropW; rw [if_pos (.inr (by omega))]
    have HE := Lib.hid e
    clear e hN
    go_enter Try.func13, Try.ntmps13
    go_wp2_with fail
    go_ret
    unfold RetRDrop
    rw [HE.out]
    exact ⟨rfl, H.out, rfl, fun _ _ => rfl, rfl, rfl, rfl⟩
  · have hB' : to' ≤ (N : Int) := by omega
    by_cases h0 : to' < 0
    · have e : dropW all front to' = (2, front) := by unfold dropW; rw [if_pos (.inl h0)]
      have HE := Lib.hid e
      clear e hN hB
      go_enter Try.func13, Try.ntmps13
      go_wp2_with fail
      go_ret
      unfold RetRDrop
      rw [HE.out]
      exact ⟨rfl, H.out, rfl, fun _ _ => rfl, rfl, rfl, rfl⟩
    · have h0' : 0 ≤ to' := by omega
      have e : dropW all front to' = (0, max front to'.toNat) := by unfold dropW; rw [if_neg (by rintro (h | h) <;> omega)]
      obtain ⟨j, rfl⟩ : ∃ j : Nat, to' = j := ⟨to'.toNat, by omega⟩
      by_cases hg : front < j
      · have HE : Hid (dropW all front j = (0, j)) := Lib.hid (by rw [e]; simp; omega)
        have hgd : decide (front < j) = true := by simp; omega
        have hjN : decide (N < j) = false := by simp; omega
        clear e hN hB h0
        go_enter Try.func13, Try.ntmps13
        go_wp2_with fail
        go_ret
        unfold RetRDrop
        rw [HE.out]
        exact ⟨rfl, setCell_heap H.out _, by simp [World.setCell], fun k hk => Below.heap_setCell _ _ _ _ hk, rfl, rfl, rfl⟩
      · have HE : Hid (dropW all front j = (0, front)) := Lib.hid (by rw [e]; simp; omega)
        have hgd : decide (front < j) = false := by simp; omega
        have hjN : decide (N < j) = false := by simp; omega
        clear e hN hB h0
        go_enter Try.func13, Try.ntmps13
        go_wp2_with fail
        go_ret
        unfold RetRDrop
        rw [HE.out]
        exact ⟨rfl, H.out, rfl, fun _ _ => rfl, rfl, rfl, rfl⟩
end Go.Proofs.Ythmngbbhbjkgkaa
