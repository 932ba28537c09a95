/-
  gimletref02: Ranges, Is.
-/
import Derived.Test.YtlomcmichbnkaaaGreatDoorRanges
namespace Go.Proofs.YtlomcmichbnkaaaGreatDoor
open Go.RowKit

def flat (l : List (Int × Int)) : List Value := l.flatMap fun p => [.int .i64 p.1, .int .i64 p.2]
theorem flat_at (l : List (Int × Int)) : ∀ i, (h : i < l.length) → (flat l)[i * 2]? = some (.int .i64 l[i].1) ∧ (flat l)[i * 2 + 1]? = some (.int .i64 l[i].2) := by
  induction l with
  | nil => intro i h; simp at h
  | cons p l ih =>
    intro i h
    cases i with
    | zero => simp [flat]
    | succ i =>
      have := ih i (by simpa using h)
      simpa [flat, Nat.add_mul] using this
/-- of a class's number the reference's list -/
def RetRng2 (w : World) (c : Nat) (e : Ending) (w' : World) : Prop :=
  ∃ b n, e = .returned (.slice (some ⟨b, 0, none⟩) n n) ∧ n = (rng c).length ∧ b < w'.heap.size ∧ Below w.heap.size w w' ∧
    ∀ i, (h : i < (rng c).length) → w'.cell? ⟨b, i * 2, none⟩ = some (.int .i64 ((rng c)[i]).1) ∧ w'.cell? ⟨b, i * 2 + 1, none⟩ = some (.int .i64 ((rng c)[i]).2)
theorem retRng2_new (w : World) (c : Nat) (n : Nat) (hn : n = (rng c).length) : RetRng2 w c (.returned (.slice (some ⟨w.heap.size, 0, none⟩) n n)) (w.alloc (.cells (flat (rng c)).toArray 109)) := by
  refine ⟨w.heap.size, n, rfl, hn, by simp, (Below.refl _ _).alloc (Nat.le_refl _) _, fun i hi => ?_⟩
  obtain ⟨h1, h2⟩ := flat_at (rng c) i hi
  rw [cell_heap (heap_alloc_new w _), cell_heap (heap_alloc_new w _)]
  exact ⟨by simpa using h1, by simpa using h2⟩

set_option maxRecDepth 100000 in
set_option maxHeartbeats 2000000 in
theorem Ranges_any (c : Nat) (hc : c < 6) (w : World) :
    Calls Tryz.prog 53 #[.int .i64 c] w fun e w' => RetRng2 w c e w' := by
  match c, hc with
  | 0, _ =>
    go_enter Tryz.func53, Tryz.ntmps53
    go_wp2
    go_ret
    exact retRng2_new w 0 5 rfl
  | 1, _ =>
    go_enter Tryz.func53, Tryz.ntmps53
    go_wp2
    go_ret
    exact retRng2_new w 1 3 rfl
  | 2, _ =>
    go_enter Tryz.func53, Tryz.ntmps53
    go_wp2
    go_ret
    exact retRng2_new w 2 15 rfl
  | 3, _ =>
    go_enter Tryz.func53, Tryz.ntmps53
    go_wp2
    go_ret
    exact retRng2_new w 3 18 rfl
  | 4, _ =>
    go_enter Tryz.func53, Tryz.ntmps53
    go_wp2
    go_ret
    exact retRng2_new w 4 1 rfl
  | 5, _ =>
    go_enter Tryz.func53, Tryz.ntmps53
    go_wp2
    go_ret
    exact retRng2_new w 5 3 rfl
end Go.Proofs.YtlomcmichbnkaaaGreatDoor
