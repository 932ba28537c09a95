/-
  A tree's nodes and where each ends: Len, last, refuses; Along's iterator.
-/
import Derived.Test.YtekoflcioooncaaDoorMxF
import Derived.Test.YtekoflcioooncaaDoorMxM
import Derived.Shelf.Abstract
import Derived.WalkKit
import Derived.OwnWalkIn
import Derived.TacticsInMore
import Derived.LoopNIn
import Derived.LoopIn
namespace Go.Proofs.YtekoflcioooncaaDoor
open Go.RowKit Go.Shelf

attribute [local go_sem] Oper.semAt_some

structure LastAt (W : World) (G : Nat → Prop) (tb L : Nat) (f : Nat → Nat) : Prop where
  good : G tb
  ex : ∃ q an cn, W.heap[tb]? = some (.cells #[q, .slice an L cn] 78 (0, 0)) ∧ L ≤ cn ∧ ∀ i, i < L → ∃ b, an = some ⟨b, 0, none⟩ ∧ G b ∧ W.cell? ⟨b, i * 12 + 9, none⟩ = some (.int .i64 (f i))
theorem LastAt.keep {A B : World} {G : Nat → Prop} {tb L : Nat} {f : Nat → Nat} (h : LastAt A G tb L f) (hk : ∀ k, G k → B.heap[k]? = A.heap[k]?) : LastAt B G tb L f := by
  obtain ⟨h1, q, an, cn, h2, h3, h4⟩ := h
  refine ⟨h1, q, an, cn, (hk tb h1).trans h2, h3, fun i hi => ?_⟩
  obtain ⟨b, e, hb, hc⟩ := h4 i hi
  exact ⟨b, e, hb, by simp only [World.cell?, hk b hb] at hc ⊢; exact hc⟩
theorem LastAt.mono {A : World} {G H : Nat → Prop} {tb L : Nat} {f : Nat → Nat} (h : LastAt A G tb L f) (hk : ∀ k, G k → H k) : LastAt A H tb L f := by
  obtain ⟨h1, q, an, cn, h2, h3, h4⟩ := h
  refine ⟨hk _ h1, q, an, cn, h2, h3, fun i hi => ?_⟩
  obtain ⟨b, e, hb, hc⟩ := h4 i hi
  exact ⟨b, e, hk _ hb, hc⟩

theorem len_any {w : World} {G : Nat → Prop} {tb L : Nat} {f : Nat → Nat} (h : LastAt w G tb L f) : Calls Tryd.prog 12 #[.pointer (some ⟨tb, 0, none⟩)] w fun e w' => e = .returned (.int .i64 (L : Nat)) ∧ w' = w := by
  obtain ⟨_, q, an, cn, h2, _, _⟩ := h
  have c1 : w.cell? ⟨tb, 1, none⟩ = some (.slice an L cn) := by rw [cell_heap h2]; rfl
  clear h2
  go_enter Tryd.func12, Tryd.ntmps12
  go_wp2_with fail
  go_ret
  exact ⟨rfl, rfl⟩
theorem len_nil (w : World) : Calls Tryd.prog 12 #[.pointer none] w fun e w' => e = .returned (.int .i64 0) ∧ w' = w := by
  go_enter Tryd.func12, Tryd.ntmps12
  go_wp2_with fail
  go_ret
  exact ⟨rfl, rfl⟩
theorem last_top {w : World} {G : Nat → Prop} {tb L : Nat} {f : Nat → Nat} (h : LastAt w G tb L f) (hL : L ≤ 1048576) (n : Int) (hn : n < 0) : Calls Tryd.prog 86 #[.pointer (some ⟨tb, 0, none⟩), .int .i64 n] w fun e w' => e = .returned (.int .i64 ((L : Int) - 1)) ∧ w' = w := by
  obtain ⟨_, q, an, cn, h2, _, _⟩ := h
  have c1 : w.cell? ⟨tb, 1, none⟩ = some (.slice an L cn) := by rw [cell_heap h2]; rfl
  have ew : IntKind.i64.wrap ((L : Int) - 1) = (L : Int) - 1 := IntWalk.i64_in _ (by omega)
  clear h2
  go_enter Tryd.func86, Tryd.ntmps86
  go_wp2_with fail
  go_ret
  exact ⟨rfl, rfl⟩
theorem last_at {w : World} {G : Nat → Prop} {tb L : Nat} {f : Nat → Nat} (h : LastAt w G tb L f) (i : Nat) (hi : i < L) : Calls Tryd.prog 86 #[.pointer (some ⟨tb, 0, none⟩), .int .i64 (i : Nat)] w fun e w' => e = .returned (.int .i64 (f i : Nat)) ∧ w' = w := by
  obtain ⟨_, q, an, cn, h2, _, h4⟩ := h
  obtain ⟨b, rfl, _, hc⟩ := h4 i hi
  have c1 : w.cell? ⟨tb, 1, none⟩ = some (.slice (some ⟨b, 0, none⟩) L cn) := by rw [cell_heap h2]; rfl
  have i1 : (0 : Int) ≤ (i : Int) := by omega
  have i2 : (i : Int) < (L : Int) := by omega
  clear h2 h4
  go_enter Tryd.func86, Tryd.ntmps86
  go_wp2_with fail
  go_ret
  exact ⟨rfl, rfl⟩
theorem refuses_in {w : World} {G : Nat → Prop} {tb L : Nat} {f : Nat → Nat} (h : LastAt w G tb L f) (n least : Int) (h1 : least ≤ n) (h2 : n < L) : Calls Tryd.prog 85 #[.pointer (some ⟨tb, 0, none⟩), .int .i64 n, .int .i64 least] w fun e w' => e = .returned (.int .i64 0) ∧ w' = w := by
  obtain ⟨_, q, an, cn, hb, _, _⟩ := h
  have c1 : w.cell? ⟨tb, 1, none⟩ = some (.slice an L cn) := by rw [cell_heap hb]; rfl
  clear hb
  go_enter Tryd.func85, Tryd.ntmps85
  go_wp2_with fail
  go_ret
  exact ⟨rfl, rfl⟩
theorem refuses_low {w : World} {G : Nat → Prop} {tb L : Nat} {f : Nat → Nat} (h : LastAt w G tb L f) (n least : Int) (h1 : n < least) : Calls Tryd.prog 85 #[.pointer (some ⟨tb, 0, none⟩), .int .i64 n, .int .i64 least] w fun e w' => e = .returned (.int .i64 2) ∧ w' = w := by
  obtain ⟨_, q, an, cn, hb, _, _⟩ := h
  have c1 : w.cell? ⟨tb, 1, none⟩ = some (.slice an L cn) := by rw [cell_heap hb]; rfl
  clear hb
  go_enter Tryd.func85, Tryd.ntmps85
  go_wp2_with fail
  go_ret
  exact ⟨rfl, rfl⟩
theorem refuses_high {w : World} {G : Nat → Prop} {tb L : Nat} {f : Nat → Nat} (h : LastAt w G tb L f) (n least : Int) (h1 : least ≤ n) (h2 : (L : Int) ≤ n) : Calls Tryd.prog 85 #[.pointer (some ⟨tb, 0, none⟩), .int .i64 n, .int .i64 least] w fun e w' => e = .returned (.int .i64 2) ∧ w' = w := by
  obtain ⟨_, q, an, cn, hb, _, _⟩ := h
  have c1 : w.cell? ⟨tb, 1, none⟩ = some (.slice an L cn) := by rw [cell_heap hb]; rfl
  clear hb
  go_enter Tryd.func85, Tryd.ntmps85
  go_wp2_with fail
  go_ret
  exact ⟨rfl, rfl⟩
theorem refuses_nil (w : World) (n least : Int) : Calls Tryd.prog 85 #[.pointer none, .int .i64 n, .int .i64 least] w fun e w' => e = .returned (.int .i64 1) ∧ w' = w := by
  go_enter Tryd.func85, Tryd.ntmps85
  go_wp2_with fail
  go_ret
  exact ⟨rfl, rfl⟩

def stepsF (g : Nat → Nat) (hi : Nat) : Nat → Nat → List Int
  | 0, _ => []
  | m + 1, k => if k < hi then (k : Int) :: stepsF g hi m (g k) else []
def hiOf (L : Nat) (f : Nat → Nat) (n : Int) : Nat := if n < 0 then L else f n.toNat + 1
def nextOf (f : Nat → Nat) (a : Int) (k : Nat) : Nat := if a = 0 then f k + 1 else k + 1
def alongM (L : Nat) (f : Nat → Nat) (n a : Int) : List Int :=
  if n < -1 ∨ (L : Int) ≤ n ∨ a < 0 ∨ 3 < a then []
  else (if a = 2 ∨ a = 3 then [n] else []) ++ (if a = 3 then [] else stepsF (nextOf f a) (hiOf L f n) L (n + 1).toNat)
theorem along_makes (t : Option Addr) (n a : Int) (w : World) :
    Calls Tryd.prog 63 #[.pointer t, .int .i64 n, .int .i64 a] w fun e w' => e = .returned (.func (.func 84) #[] #[.pointer (some ⟨w.heap.size, 0, none⟩), .pointer (some ⟨w.heap.size + 1, 0, none⟩), .pointer (some ⟨w.heap.size + 1 + 1, 0, none⟩)]) ∧
      w' = ((w.alloc (.cells #[.pointer t] 27)).alloc (.cells #[.int .i64 n] 3)).alloc (.cells #[.int .i64 a] 53) := by
  go_enter Tryd.func63, Tryd.ntmps63
  go_wp2_with fail
  go_ret
  exact ⟨rfl, rfl⟩
end Go.Proofs.YtekoflcioooncaaDoor
