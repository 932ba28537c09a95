/-
  General laws for operations on wide values: a struct that is built and stored into a new variable in one stroke. No program is named here.
-/
import Derived.Test.YtlomcmichbnkaaaGreatDoorGenA
import Derived.Deep.MidRow
namespace Go.Proofs.YtlomcmichbnkaaaGreatDoor
open Go.RowKit

section
variable {P : Program} {ops : Array Oper} {rest : List Oper} {o : Oper} {a : Act} {w : World} {Q : Exit → Act → World → Prop}

theorem wpList_val (hg : o.guard = none) {v : Value} {w' : World} (h : (execOp a.eval o).run P w = .ok (.value v) w') (k : wpList P ops Q rest (a.put o.dst v) w') :
    wpList P ops Q (o :: rest) a w :=
  wpList_plain hg fun _ hK => by unfold Oper.wp; rw [h]; exact hK _ _ k

theorem wpList_build (hg : o.guard = none) (t : TypeId) (parts : List (Nat × Operand)) (ho : o.op = .build t parts.toArray) {v : Value}
    (h : (Instr.build t (parts.map fun p => (p.1, a.eval p.2)).toArray).run P w = .ok v w) (k : wpList P ops Q rest (a.put o.dst v) w) : wpList P ops Q (o :: rest) a w :=
  wpList_val hg (by unfold execOp; simp only [ho, List.map_toArray, Sem.run_bind, h, Result.andThen_ok]; rfl) k

theorem run_typeInfo' {t : TypeId} {i : TypeInfo} (h : P.info? t = some i) : (typeInfo t).run P w = .ok i w := by
  simp [typeInfo, program, Sem.run, h]

theorem wpList_alloc (hg : o.guard = none) (t : TypeId) (ho : o.op = .alloc t) {i : TypeInfo} (hi : P.info? t = some i) {z : Value} (hz : i.zero = some z)
    (k : wpList P ops Q rest (a.put o.dst (.pointer (some ⟨w.heap.size, 0, none⟩))) (w.alloc (.cells z.cells t))) : wpList P ops Q (o :: rest) a w := by
  refine wpList_val hg (v := .pointer (some ⟨w.heap.size, 0, none⟩)) (w' := w.alloc (.cells z.cells t)) ?_ k
  unfold execOp
  simp only [ho, Instr.alloc, zeroValue, Sem.run_bind, run_typeInfo' hi, Result.andThen_ok, hz]
  rfl

theorem setIfInBounds_pre (A C : List Value) (v u : Value) : (A ++ u :: C).toArray.setIfInBounds A.length v = (A ++ v :: C).toArray := by
  simp [List.setIfInBounds_toArray]
theorem setCells_whole (b : Nat) (t : TypeId) (vs : List Value) : ∀ (w : World) (pre old : List Value), w.heap[b]? = some (.cells (pre ++ old).toArray t (0, 0)) → old.length = vs.length →
    (w.setCells b pre.length vs).heap[b]? = some (.cells (pre ++ vs).toArray t (0, 0)) ∧ (∀ j, j ≠ b → (w.setCells b pre.length vs).heap[j]? = w.heap[j]?) ∧ (w.setCells b pre.length vs).heap.size = w.heap.size ∧ (w.setCells b pre.length vs).os = w.os ∧ (w.setCells b pre.length vs).tape = w.tape ∧ (w.setCells b pre.length vs).output = w.output ∧ (w.setCells b pre.length vs).drawn = w.drawn := by
  induction vs with
  | nil =>
    intro w pre old hb hl
    obtain rfl : old = [] := by simpa using hl
    exact ⟨hb, fun _ _ => rfl, rfl, rfl, rfl, rfl, rfl⟩
  | cons v vs ih =>
    intro w pre old hb hl
    cases old with
    | nil => simp at hl
    | cons u old =>
      have h1 := setCell_heap (i := pre.length) hb v
      have h2 : (pre ++ u :: old).toArray.setIfInBounds pre.length v = ((pre ++ [v]) ++ old).toArray := by
        rw [setIfInBounds_pre pre old v u]; simp
      rw [h2] at h1
      have h3 := ih (w.setCell ⟨b, pre.length, none⟩ v) (pre ++ [v]) old h1 (by simpa using hl)
      rw [List.length_append, List.length_singleton] at h3
      rw [World.setCells]
      obtain ⟨a1, a2, a3, a4, a5, a6, a7⟩ := h3
      refine ⟨by simpa using a1, fun j hj => (a2 j hj).trans (Below.heap_setCell _ _ _ _ hj), a3.trans (by simp [World.setCell]), a4, a5, a6, a7⟩

theorem world_ext {w w' : World} (h1 : w.heap = w'.heap) (h2 : w.tape = w'.tape) (h3 : w.drawn = w'.drawn) (h4 : w.os = w'.os) (h5 : w.output = w'.output) : w = w' := by
  cases w; cases w'; simp_all

theorem setCells_alloc (w : World) (z c : Array Value) (t : TypeId) (h : z.size = c.size) : (w.alloc (.cells z t)).setCells w.heap.size 0 c.toList = w.alloc (.cells c t) := by
  have hb : (w.alloc (.cells z t)).heap[w.heap.size]? = some (.cells ([] ++ z.toList).toArray t (0, 0)) := by
    rw [heap_alloc_new]; simp
  obtain ⟨a1, a2, a3, a4, a5, a6, a7⟩ := setCells_whole w.heap.size t c.toList (w.alloc (.cells z t)) [] z.toList hb (by simpa using h)
  simp only [List.length_nil] at a1 a2 a3 a4 a5 a6 a7
  refine world_ext ?_ a5 a7 a4 a6
  apply Array.ext_getElem?
  intro j
  by_cases hj : j = w.heap.size
  · subst hj
    rw [a1, heap_alloc_new]
    simp
  · rw [a2 j hj]
    by_cases hl : j < w.heap.size
    · rw [Below.heap_alloc _ _ _ hl, Below.heap_alloc _ _ _ hl]
    · rw [Array.getElem?_eq_none (by simp; omega), Array.getElem?_eq_none (by simp; omega)]

/-- 'x := T{..}' in a variable of its own: built, the variable made, stored. -/
theorem wpList_new (o1 o2 o3 : Oper) (g1 : o1.guard = none) (g2 : o2.guard = none) (g3 : o3.guard = none) (t : TypeId) (parts : List (Nat × Operand)) (d1 d2 : Tmp)
    (h1 : o1.op = .build t parts.toArray) (h2 : o2.op = .alloc t) (h3 : o3.op = .store t (.tmp d2) (.tmp d1)) (e1 : o1.dst = some d1) (e2 : o2.dst = some d2) (e3 : o3.dst = none) (hne : d2 ≠ d1)
    (l1 : d1 < a.tmps.size) (l2 : d2 < a.tmps.size)
    {c : Array Value} (hb : (Instr.build t (parts.map fun p => (p.1, a.eval p.2)).toArray).run P w = .ok (.agg c) w)
    {i : TypeInfo} (hi : P.info? t = some i) {z : Array Value} (hz : i.zero = some (.agg z)) (hsz : i.size = c.size) (hzc : z.size = c.size) (h1c : c.all (·.oneCell') = true)
    (k : wpList P ops Q rest ((a.put (some d1) (.agg c)).put (some d2) (.pointer (some ⟨w.heap.size, 0, none⟩))) (w.alloc (.cells c t))) :
    wpList P ops Q (o1 :: o2 :: o3 :: rest) a w := by
  refine wpList_build g1 t parts h1 hb ?_
  refine wpList_alloc g2 t h2 hi hz ?_
  rw [e1, e2]
  have ev2 : ∀ b : Act, d2 < b.tmps.size → ∀ v, (b.put (some d2) v).eval (.tmp d2) = v := fun b hb v => by simp [Act.put, Act.eval, Array.getD, hb]
  refine wpList_store_mid g3 t (.tmp d2) (.tmp d1) h3 w.heap.size 0 c ?_ ?_ ?_ ?_ h1c ?_
  · simp [Act.put, Act.eval, Array.getD, l2]
  · simp [Act.put, Act.eval, Array.getD, l1, hne]
  · intro j hj
    have hc : (w.alloc (.cells z t)).cell? ⟨w.heap.size, 0 + j, none⟩ = z[0 + j]? := cell_heap (heap_alloc_new w _)
    refine ⟨?_, frozen_heap (heap_alloc_new w _)⟩
    rw [show Value.cells (.agg z) = z from rfl, hc, Nat.zero_add, Array.getElem?_eq_getElem (by omega)]
    rfl
  · rw [hi]; simp [hsz]
  · rw [show Value.cells (.agg z) = z from rfl, setCells_alloc w z c t hzc, e3]
    exact k

end
end Go.Proofs.YtlomcmichbnkaaaGreatDoor
