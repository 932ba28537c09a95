/-
  General laws for operations on wide values: a struct that is built and stored into a new variable in one stroke. No program is named here.
-/
import Derived.Test.YtmnloeolacmemaaGreatWpA
import Derived.Deep.MidRow
import Derived.Lib.ConvBytes
import Derived.Deep.CutBlock
namespace Go.Proofs.YtmnloeolacmemaaGreat
open Go.RowKit

section
variable {P : Program} {ops : Array Oper} {rest : List Oper} {o : Oper} {a : Act} {w : World} {Q : Exit → Act → World → Prop}

theorem wpList_val (hg : o.guard = none) {v : Value} {w' : World} (h : (execOp a.eval o).run P w = .ok (.value v) w') (k : wpList P ops Q rest (a.put o.dst v) w') :
    wpList P ops Q (o :: rest) a w :=
  wpList_plain hg fun _ hK => by unfold Oper.wp; rw [h]; exact hK _ _ k

theorem wpList_build (hg : o.guard = none) (t : TypeId) (parts : List (Nat × Operand)) (ho : o.op = .build t parts.toArray) {v : Value}
    (h : (Instr.build t (parts.map fun p => (p.1, a.eval p.2)).toArray).run P w = .ok v w) (k : wpList P ops Q rest (a.put o.dst v) w) : wpList P ops Q (o :: rest) a w :=
  wpList_val hg (by unfold execOp; simp only [ho, List.map_toArray, Sem.run_bind, h, Result.andThen_ok]; rfl) k

theorem run_typeInfo' {t : TypeId} {i : TypeInfo} (h : P.info? t = some i) : (typeInfo t).run P w = .ok i w := by
  simp [typeInfo, program, Sem.run, h]

theorem wpList_alloc (hg : o.guard = none) (t : TypeId) (ho : o.op = .alloc t) {i : TypeInfo} (hi : P.info? t = some i) {z : Value} (hz : i.zero = some z)
    (k : wpList P ops Q rest (a.put o.dst (.pointer (some ⟨w.heap.size, 0, none⟩))) (w.alloc (.cells z.cells t))) : wpList P ops Q (o :: rest) a w := by
  refine wpList_val hg (v := .pointer (some ⟨w.heap.size, 0, none⟩)) (w' := w.alloc (.cells z.cells t)) ?_ k
  unfold execOp
  simp only [ho, Instr.alloc, zeroValue, Sem.run_bind, run_typeInfo' hi, Result.andThen_ok, hz]
  rfl

theorem setIfInBounds_pre (A C : List Value) (v u : Value) : (A ++ u :: C).toArray.setIfInBounds A.length v = (A ++ v :: C).toArray := by
  simp [List.setIfInBounds_toArray]
theorem setCells_whole (b : Nat) (t : TypeId) (vs : List Value) : ∀ (w : World) (pre old : List Value), w.heap[b]? = some (.cells (pre ++ old).toArray t (0, 0)) → old.length = vs.length →
    (w.setCells b pre.length vs).heap[b]? = some (.cells (pre ++ vs).toArray t (0, 0)) ∧ (∀ j, j ≠ b → (w.setCells b pre.length vs).heap[j]? = w.heap[j]?) ∧ (w.setCells b pre.length vs).heap.size = w.heap.size ∧ (w.setCells b pre.length vs).os = w.os ∧ (w.setCells b pre.length vs).tape = w.tape ∧ (w.setCells b pre.length vs).output = w.output ∧ (w.setCells b pre.length vs).drawn = w.drawn := by
  induction vs with
  | nil =>
    intro w pre old hb hl
    obtain rfl : old = [] := by simpa using hl
    exact ⟨hb, fun _ _ => rfl, rfl, rfl, rfl, rfl, rfl⟩
  | cons v vs ih =>
    intro w pre old hb hl
    cases old with
    | nil => simp at hl
    | cons u old =>
      have h1 := setCell_heap (i := pre.length) hb v
      have h2 : (pre ++ u :: old).toArray.setIfInBounds pre.length v = ((pre ++ [v]) ++ old).toArray := by
        rw [setIfInBounds_pre pre old v u]; simp
      rw [h2] at h1
      have h3 := ih (w.setCell ⟨b, pre.length, none⟩ v) (pre ++ [v]) old h1 (by simpa using hl)
      rw [List.length_append, List.length_singleton] at h3
      rw [World.setCells]
      obtain ⟨a1, a2, a3, a4, a5, a6, a7⟩ := h3
      refine ⟨by simpa using a1, fun j hj => (a2 j hj).trans (Below.heap_setCell _ _ _ _ hj), a3.trans (by simp [World.setCell]), a4, a5, a6, a7⟩

theorem world_ext {w w' : World} (h1 : w.heap = w'.heap) (h2 : w.tape = w'.tape) (h3 : w.drawn = w'.drawn) (h4 : w.os = w'.os) (h5 : w.output = w'.output) : w = w' := by
  cases w; cases w'; simp_all

theorem setCells_alloc (w : World) (z c : Array Value) (t : TypeId) (h : z.size = c.size) : (w.alloc (.cells z t)).setCells w.heap.size 0 c.toList = w.alloc (.cells c t) := by
  have hb : (w.alloc (.cells z t)).heap[w.heap.size]? = some (.cells ([] ++ z.toList).toArray t (0, 0)) := by
    rw [heap_alloc_new]; simp
  obtain ⟨a1, a2, a3, a4, a5, a6, a7⟩ := setCells_whole w.heap.size t c.toList (w.alloc (.cells z t)) [] z.toList hb (by simpa using h)
  simp only [List.length_nil] at a1 a2 a3 a4 a5 a6 a7
  refine world_ext ?_ a5 a7 a4 a6
  apply Array.ext_getElem?
  intro j
  by_cases hj : j = w.heap.size
  · subst hj
    rw [a1, heap_alloc_new]
    simp
  · rw [a2 j hj]
    by_cases hl : j < w.heap.size
    · rw [Below.heap_alloc _ _ _ hl, Below.heap_alloc _ _ _ hl]
    · rw [Array.getElem?_eq_none (by simp; omega), Array.getElem?_eq_none (by simp; omega)]

/-- 'x := T{..}' in a variable of its own: built, the variable made, stored. -/
theorem wpList_new (o1 o2 o3 : Oper) (g1 : o1.guard = none) (g2 : o2.guard = none) (g3 : o3.guard = none) (t : TypeId) (parts : List (Nat × Operand)) (d1 d2 : Tmp)
    (h1 : o1.op = .build t parts.toArray) (h2 : o2.op = .alloc t) (h3 : o3.op = .store t (.tmp d2) (.tmp d1)) (e1 : o1.dst = some d1) (e2 : o2.dst = some d2) (e3 : o3.dst = none) (hne : d2 ≠ d1)
    (l1 : d1 < a.tmps.size) (l2 : d2 < a.tmps.size)
    {c : Array Value} (hb : (Instr.build t (parts.map fun p => (p.1, a.eval p.2)).toArray).run P w = .ok (.agg c) w)
    {i : TypeInfo} (hi : P.info? t = some i) {z : Array Value} (hz : i.zero = some (.agg z)) (hsz : i.size = c.size) (hzc : z.size = c.size) (h1c : c.all (·.oneCell') = true)
    (k : wpList P ops Q rest ((a.put (some d1) (.agg c)).put (some d2) (.pointer (some ⟨w.heap.size, 0, none⟩))) (w.alloc (.cells c t))) :
    wpList P ops Q (o1 :: o2 :: o3 :: rest) a w := by
  refine wpList_build g1 t parts h1 hb ?_
  refine wpList_alloc g2 t h2 hi hz ?_
  rw [e1, e2]
  have ev2 : ∀ b : Act, d2 < b.tmps.size → ∀ v, (b.put (some d2) v).eval (.tmp d2) = v := fun b hb v => by simp [Act.put, Act.eval, Array.getD, hb]
  refine wpList_store_mid g3 t (.tmp d2) (.tmp d1) h3 w.heap.size 0 c ?_ ?_ ?_ ?_ h1c ?_
  · simp [Act.put, Act.eval, Array.getD, l2]
  · simp [Act.put, Act.eval, Array.getD, l1, hne]
  · intro j hj
    have hc : (w.alloc (.cells z t)).cell? ⟨w.heap.size, 0 + j, none⟩ = z[0 + j]? := cell_heap (heap_alloc_new w _)
    refine ⟨?_, frozen_heap (heap_alloc_new w _)⟩
    rw [show Value.cells (.agg z) = z from rfl, hc, Nat.zero_add, Array.getElem?_eq_getElem (by omega)]
    rfl
  · rw [hi]; simp [hsz]
  · rw [show Value.cells (.agg z) = z from rfl, setCells_alloc w z c t hzc, e3]
    exact k

end
end Go.Proofs.YtmnloeolacmemaaGreat

/-
  strings.Replacer over pairs of one byte and a text: the table that its build makes.
-/
namespace Go.Proofs.YtmnloeolacmemaaGreat
open Go.RowKit

/-- a text of one byte -/
def str1 (o : UInt8) : ByteArray := ⟨#[o]⟩
def strsOf (ps : List (UInt8 × ByteArray)) : List Value := ps.flatMap fun p => [.string (str1 p.1), .string p.2]
theorem strsOf_length (ps : List (UInt8 × ByteArray)) : (strsOf ps).length = 2 * ps.length := by
  induction ps with
  | nil => rfl
  | cons p ps ih => simp [strsOf] at ih ⊢; omega
theorem strsOf_at (ps : List (UInt8 × ByteArray)) : ∀ j, (h : j < ps.length) → (strsOf ps)[2 * j]? = some (.string (str1 ps[j].1)) ∧ (strsOf ps)[2 * j + 1]? = some (.string ps[j].2) := by
  induction ps with
  | nil => intro j h; simp at h
  | cons p ps ih =>
    intro j h
    cases j with
    | zero => simp [strsOf]
    | succ j =>
      have := ih j (by simpa using h)
      simpa [strsOf, Nat.mul_succ] using this
def look (ps : List (UInt8 × ByteArray)) (o : UInt8) : Option ByteArray := (ps.find? fun p => p.1 == o).map (·.2)

/-- a cell of the table -/
def Ent (w : World) (v : Value) : Option ByteArray → Prop
  | none => v = .slice none 0 0
  | some n => ∃ h c, v = .slice (some ⟨h, 0, none⟩) n.size c ∧ Sl w (some ⟨h, 0, none⟩) n.size (bytesV n)
theorem Ent.keep {w w' : World} {v : Value} {x : Option ByteArray} (h : Ent w v x) (hk : ∀ k, v.ownBlock = some k → w'.heap[k]? = w.heap[k]?) : Ent w' v x := by
  cases x with
  | none => exact h
  | some n =>
    obtain ⟨k, c, rfl, hs⟩ := h
    exact ⟨k, c, rfl, hs.keep fun b o e => by injection e with e; injection e with e1 e2; subst e1; exact hk _ rfl⟩

/-- the cells of a slice of pairs -/
theorem strs_cells {w : World} {a : Option Addr} {n : Nat} {ps : List (UInt8 × ByteArray)} (hs : Sl w a n (strsOf ps)) (h0 : 0 < ps.length) :
    ∃ b o, a = some ⟨b, o, none⟩ ∧ b < w.heap.size ∧ ∀ j, (hj : j < ps.length) → w.cell? ⟨b, o + 2 * j, none⟩ = some (.string (str1 ps[j].1)) ∧ w.cell? ⟨b, o + (2 * j + 1), none⟩ = some (.string ps[j].2) := by
  obtain ⟨b, o, rfl, hb, _⟩ := hs.cell 0 (by rw [strsOf_length]; omega)
  refine ⟨b, o, rfl, hb, fun j hj => ?_⟩
  obtain ⟨e1, e2⟩ := strsOf_at ps j hj
  have key : ∀ i v, (strsOf ps)[i]? = some v → w.cell? ⟨b, o + i, none⟩ = some v := by
    intro i v hv
    obtain ⟨hi, hv2⟩ := List.getElem?_eq_some_iff.1 hv
    obtain ⟨b', o', e, _, hc⟩ := hs.cell i hi
    injection e with e
    injection e with e3 e4
    subst e3
    subst e4
    rw [hc, hv2]
  exact ⟨key _ _ e1, key _ _ e2⟩

/-- the table's cells: no byte has a form yet; v: what is to be replaced -/
def tab0 (v : Value) : Array Value := (Array.replicate 256 (.slice none 0 0)).push v
theorem tab0_size (v : Value) : (tab0 v).size = 257 := by simp [tab0]
theorem tab0_one (a : Option Addr) (n c : Nat) : (tab0 (.slice a n c)).all (·.oneCell') = true := by
  rw [Array.all_eq_true_iff_forall_mem]
  intro v hv
  simp only [tab0, Array.mem_push, Array.mem_replicate] at hv
  rcases hv with ⟨_, rfl⟩ | rfl <;> rfl
theorem build_tab (a : Option Addr) (n c : Nat) (w : World) : (Instr.build 135 #[(1, .slice a n c)]).run Tryz.prog w = .ok (.agg (tab0 (.slice a n c))) w := by kernel_rfl
theorem info_tab : (Tryz.prog.info? 135).map (fun i => (i.zero, i.size)) = some (some (.agg (tab0 (.slice none 0 0))), 257) := by kernel_rfl
theorem info_str : (Tryz.prog.info? 9).map (fun i => (i.zero, i.size, i.bytes)) = some (some (.string ByteArray.empty), 1, 16) := by kernel_rfl
theorem info_parts2 {P : Program} {e : TypeId} {z : Value} {size : Nat} (h : (P.info? e).map (fun i => (i.zero, i.size)) = some (some z, size)) :
    ∃ i, P.info? e = some i ∧ i.zero = some z ∧ i.size = size := by
  cases hi : P.info? e with
  | none => rw [hi] at h; cases h
  | some i => rw [hi] at h; simp at h; exact ⟨i, rfl, h.1, h.2⟩

theorem look_cons (p : UInt8 × ByteArray) (ps : List (UInt8 × ByteArray)) (o : UInt8) : look (p :: ps) o = if p.1 = o then some p.2 else look ps o := by
  unfold look
  by_cases h : p.1 = o
  · rw [List.find?_cons_of_pos (by simp [h]), if_pos h]; rfl
  · rw [List.find?_cons_of_neg (by simp [h]), if_neg h]
theorem look_none (ps : List (UInt8 × ByteArray)) (o : UInt8) (h : o ∉ ps.map (·.1)) : look ps o = none := by
  induction ps with
  | nil => rfl
  | cons p ps ih =>
    simp only [List.map_cons, List.mem_cons, not_or] at h
    rw [look_cons, if_neg (fun e => h.1 e.symm), ih h.2]

/-- what stands while the table is filled: ps has been laid, in the table of block G of wr; w: the world in which the call began -/
structure BuildInv (w wr : World) (G : Nat) (ps : List (UInt8 × ByteArray)) : Prop where
  below : Below w.heap.size w wr
  lt : w.heap.size < G
  tab : ∃ (C : Array Value) (v : Value), wr.heap[G]? = some (.cells C 135 (0, 0)) ∧ C.size = 257 ∧ C[256]? = some v ∧ wr.ownsRow w.heap.size 9 1 v ps.length (ps.reverse.map fun p => Value.string (str1 p.1)) ∧ v.ownBlock ≠ some G ∧
    (∀ o : UInt8, ∃ u, C[o.toNat]? = some u ∧ Ent wr u (look ps o) ∧ ∀ h, u.ownBlock = some h → v.ownBlock ≠ some h ∧ h ≠ G ∧ h < wr.heap.size ∧ w.heap.size ≤ h)
/-- one pair more -/
theorem BuildInv.step {w wr w2 w3 w4 : World} {G : Nat} {ps : List (UInt8 × ByteArray)} {o : UInt8} {nn : ByteArray} {C : Array Value} {v v3 u4 : Value}
    (below : Below w.heap.size w wr) (lt : w.heap.size < G) (hG : wr.heap[G]? = some (.cells C 135 (0, 0))) (hC : C.size = 257)
    (hvG : v.ownBlock ≠ some G)
    (ents : ∀ o : UInt8, ∃ u, C[o.toNat]? = some u ∧ Ent wr u (look ps o) ∧ ∀ h, u.ownBlock = some h → v.ownBlock ≠ some h ∧ h ≠ G ∧ h < wr.heap.size ∧ w.heap.size ≤ h)
    (hold : ∀ k, v.ownBlock = some k → w.heap.size ≤ k)
    (h2 : Below wr.heap.size wr w2) (h3 : App w2 w3 v v3) (own3 : w3.ownsRow w.heap.size 9 1 v3 (ps.length + 1) (ps.reverse.map (fun p => Value.string (str1 p.1)) ++ [.string (str1 o)]))
    (h4 : Below w3.heap.size (w3.setCell ⟨G, 256, none⟩ v3) w4) (hu4 : Ent w4 u4 (some nn)) (hub : ∀ h, u4.ownBlock = some h → w3.heap.size ≤ h ∧ h < w4.heap.size) :
    BuildInv w (w4.setCell ⟨G, o.toNat, none⟩ u4) G ((o, nn) :: ps) := by
  have hGl := heap_lt hG
  have hG2 : w2.heap[G]? = some (.cells C 135 (0, 0)) := (h2.block G hGl).trans hG
  have hGl2 := heap_lt hG2
  have hG3 : w3.heap[G]? = some (.cells C 135 (0, 0)) := (h3.keep hGl2 hvG).trans hG2
  have hGl3 := heap_lt hG3
  have hvG3 := h3.ne hGl2 hvG
  have hG4 : w4.heap[G]? = some (.cells (C.setIfInBounds 256 v3) 135 (0, 0)) := (h4.block G hGl3).trans (setCell_heap hG3 v3)
  have hG5 := setCell_heap (i := o.toNat) hG4 u4
  have ho : o.toNat < 256 := o.toNat_lt
  have hsz2 : wr.heap.size ≤ w2.heap.size := h2.size
  have hsz3 : w2.heap.size ≤ w3.heap.size := h3.grown.size
  have hsz4 : w3.heap.size ≤ w4.heap.size := by have := h4.size; simpa [World.setCell] using this
  have keep : ∀ k, k < wr.heap.size → v.ownBlock ≠ some k → k ≠ G → (w4.setCell ⟨G, o.toNat, none⟩ u4).heap[k]? = wr.heap[k]? := by
    intro k hk hv hkG
    rw [Below.heap_setCell _ _ _ _ hkG, h4.block k (by omega), Below.heap_setCell _ _ _ _ hkG, h3.keep (by omega) hv, h2.block k hk]
  refine ⟨?_, lt, (C.setIfInBounds 256 v3).setIfInBounds o.toNat u4, v3, hG5, by simp [hC], ?_, ?_, hvG3, ?_⟩
  · have b2 : Below w.heap.size w w2 := below.trans (h2.mono below.size)
    have b3 : Below w.heap.size w w3 := b2.trans (h3.below (by have := below.size; omega) hold)
    have b4 : Below w.heap.size w w4 := (b3.setCell (p := ⟨G, 256, none⟩) (by show w.heap.size ≤ G; omega) v3).trans (h4.mono (by have := below.size; simp; omega))
    exact b4.setCell (p := ⟨G, o.toNat, none⟩) (by show w.heap.size ≤ G; omega) u4
  · rw [Array.getElem?_setIfInBounds_ne (by omega)]
    simp [hC]
  · have e : ((o, nn) :: ps).reverse.map (fun p => Value.string (str1 p.1)) = ps.reverse.map (fun p => Value.string (str1 p.1)) ++ [.string (str1 o)] := by simp
    rw [e]
    refine own_block own3 fun k hk => ?_
    have hkl := own3.lt k hk
    have hkG : k ≠ G := fun e => hvG3 (by rw [hk, e])
    rw [Below.heap_setCell _ _ _ _ hkG, h4.block k hkl.2, Below.heap_setCell _ _ _ _ hkG]
  · intro q
    by_cases hq : q = o
    · subst hq
      refine ⟨u4, by simp [hC, Array.getElem?_setIfInBounds]; omega, ?_, ?_⟩
      · rw [look_cons, if_pos rfl]
        exact hu4.keep fun k hk => Below.heap_setCell _ _ _ _ (show k ≠ G by have := hub k hk; omega)
      · intro h hh
        have hb := hub h hh
        refine ⟨fun e => ?_, by omega, by simpa [World.setCell] using hb.2, by have := below.size; omega⟩
        have := own3.lt h e
        omega
    · have hqo : q.toNat ≠ o.toNat := fun e => hq (UInt8.toNat_inj.1 e)
      have hq256 : q.toNat < 256 := q.toNat_lt
      obtain ⟨u, hu, he, hb⟩ := ents q
      refine ⟨u, ?_, ?_, ?_⟩
      · rw [Array.getElem?_setIfInBounds_ne (by omega), Array.getElem?_setIfInBounds_ne (by omega)]; exact hu
      · rw [look_cons, if_neg (fun e => hq e.symm)]
        exact he.keep fun k hk => keep k (hb k hk).2.2.1 (hb k hk).1 (hb k hk).2.1
      · intro h hh
        obtain ⟨h1, h2', h3', h4'⟩ := hb h hh
        refine ⟨h3.ne (by omega) h1, h2', ?_, h4'⟩
        simp only [World.setCell, Array.size_modify]
        omega
end Go.Proofs.YtmnloeolacmemaaGreat

/-
  strings.Replacer over pairs of one byte and a text: its build, the walk.
-/
namespace Go.Proofs.YtmnloeolacmemaaGreat
open Go.RowKit

/-- the ending is the table of ps -/
def RetTab (w : World) (e : Ending) (w' : World) (ps : List (UInt8 × ByteArray)) : Prop :=
  ∃ G, e = .returned (.iface 136 (.pointer (some ⟨G, 0, none⟩))) ∧ BuildInv w w' G ps

set_option maxRecDepth 100000 in
set_option maxHeartbeats 1600000 in
theorem build_any (ps : List (UInt8 × ByteArray)) (b : Nat) (a : Option Addr) (n c : Nat) (d0 d1 d2 x3 : Value) (w : World)
    (hw : w.heap[b]? = some (.cells #[d0, d1, d2, x3, .slice a n c] 118 (0, 0))) (hs : Sl w a n (strsOf ps))
    (hlen : 2 ≤ ps.length) (hsm : ps.length ≤ 256) (hnd : (ps.map (·.1)).Nodup) (hbig : ∀ p ∈ ps, p.2.size ≤ 1048576) (hwide : ps.all (fun p => p.2.size == 1) = false) :
    Calls Tryz.prog 47 #[.pointer (some ⟨b, 0, none⟩)] w fun e w' => RetTab w e w' ps := by
  have c4 := cell_heap (i := 4) hw
  simp only [List.getElem?_toArray, List.getElem?_cons_zero, List.getElem?_cons_succ] at c4
  have hn : n = 2 * ps.length := by have := hs.len; rw [strsOf_length] at this; exact this
  obtain ⟨ba, oa, rfl, hba, hcs⟩ := strs_cells hs (by omega)
  have hs1 : ∀ o, (str1 o).size = 1 := fun _ => rfl
  have hn2 : ((n : Int) == 2) = false := by simp; omega
  have HN := Lib.hid hn
  have HCS := Lib.hid hcs
  have hnb : n ≤ 512 := by omega
  clear hn hcs
  go_enter Tryz.func47, Tryz.ntmps47
  go_wp2_with fail
  go_loop [4, 5] (fun al i => ∃ (j : Nat) (f : Bool), al = .bool f ∧ i = .int .i64 j ∧ j ≤ n ∧ Hid (∃ k, j = 2 * k ∧ f = (ps.take k).all (fun p => p.2.size == 1))) (fun _ i => n - (intOf i).toNat)
  case atStart => exact ⟨0, true, rfl, rfl, Nat.zero_le _, 0, rfl, rfl⟩
  case round =>
    obtain ⟨j, f, rfl, rfl, hj, hk⟩ := hrel
    by_cases hlt : j < n
    · obtain ⟨k, hjk, hf⟩ := hk.out
      have hkl : k < ps.length := by have := HN.out; omega
      obtain ⟨e1, e2⟩ := HCS.out k hkl
      rw [← hjk] at e1 e2
      have hnext : j + 2 ≤ n := by have := HN.out; omega
      have HK : Hid (∃ k', j + 2 = 2 * k' ∧ (f && (ps[k].2.size == 1)) = (ps.take k').all (fun p => p.2.size == 1)) := by
        refine ⟨k + 1, by omega, ?_⟩
        rw [List.take_succ_eq_append_getElem hkl, List.all_append, ← hf]
        simp
      have hsz : ps[k].2.size ≤ 1048576 := hbig _ (List.getElem_mem hkl)
      clear hf hjk hk
      generalize ps[k].1 = o at e1
      generalize ps[k].2 = nn at e2 HK hsz
      by_cases h1 : nn.size = 1
      · have HK2 : Hid (∃ k', j + 2 = 2 * k' ∧ f = (ps.take k').all (fun p => p.2.size == 1)) := by
          obtain ⟨k', h3, h4⟩ := HK; exact ⟨k', h3, by rw [← h4, h1]; simp⟩
        go_wp2_with fail
        go_round
        case rel => exact ⟨j + 2, f, rfl, by go_num, hnext, HK2⟩
        case measure => simp [intOf]; omega
      · have HK2 : Hid (∃ k', j + 2 = 2 * k' ∧ false = (ps.take k').all (fun p => p.2.size == 1)) := by
          obtain ⟨k', h3, h4⟩ := HK; exact ⟨k', h3, by rw [← h4]; simp [h1]⟩
        go_wp2_with fail
        go_round
        case rel => exact ⟨j + 2, false, rfl, by go_num, hnext, HK2⟩
        case measure => simp [intOf]; omega
    · have hff : f = false := by
        obtain ⟨k, hjk, hf⟩ := hk.out
        rw [List.take_of_length_le (by have := HN.out; omega), hwide] at hf
        exact hf
      subst hff
      obtain ⟨is, his, hisz, his1, his2⟩ := info_parts info_str
      obtain ⟨it, hit, hitz, hits⟩ := info_parts2 info_tab
      have hh : ((n / 2 : Nat) : Int) = (n : Int) / 2 := by omega
      go_upto_region 26 with (fail)
      apply wp_region_lit
      go_wp2_with (at_make; go_loud (refine wpList_make_own _ rfl _ _ 100 rfl w.heap.size 9 is (.string ByteArray.empty) 1 Tryz.underlying100 his hisz his1 .i64 .i64 _ (n / 2) (by rfl) (by rfl) (by omega) (by rw [his2]; omega) (by unfold maxLen; omega) (Nat.le_refl _) (fun w1 hown1 hgrow1 => ?_); refine wpList_new _ _ _ rfl rfl rfl 135 [(1, .tmp 94)] 95 11 rfl rfl rfl rfl rfl rfl (by decide) (by simp [Act.put]) (by simp [Act.put]) (build_tab _ _ _ _) hit hitz (by rw [hits, tab0_size]) (by rw [tab0_size, tab0_size]) (tab0_one _ _ _) ?_))
      have hb1 : Below w.heap.size w w1 := (Below.refl _ _).grown hgrow1 (Nat.le_refl _) (by intro k hk; cases hk)
      have hlt1 := hown1.lt _ rfl
      have hgt : w.heap.size < w1.heap.size := by have := hlt1.2; simpa using this
      have hst : Hid (BuildInv w (w1.alloc (.cells (tab0 (.slice (some ⟨w.heap.size, 0, none⟩) 0 (n / 2))) 135)) w1.heap.size (ps.drop ps.length)) := by
        rw [List.drop_of_length_le (Nat.le_refl _)]
        refine ⟨hb1.alloc hb1.size _, hgt, _, .slice (some ⟨w.heap.size, 0, none⟩) 0 (n / 2), heap_alloc_new _ _, tab0_size _, by unfold tab0; rw [Array.getElem?_push, if_pos (by simp)], hown1.alloc _, ?_, ?_⟩
        · intro e; injection e with e; simp at e; omega
        · intro o
          have ho : o.toNat < 256 := o.toNat_lt
          refine ⟨.slice none 0 0, ?_, rfl, fun h hh => by cases hh⟩
          unfold tab0
          rw [Array.getElem?_push, if_neg (by simp; omega), Array.getElem?_replicate, if_pos ho]
      generalize w1.alloc (.cells (tab0 (.slice (some ⟨w.heap.size, 0, none⟩) 0 (n / 2))) 135) = ws at hst
      generalize w1.heap.size = G at hgt hst
      clear hown1 hgrow1 hb1 hlt1
      have hlast : ((n : Int) - 2) = 2 * (ps.length : Int) - 2 := by have := HN.out; omega
      rw [hlast]
      clear hlast hh
      go_loopw [12, 13, 14] (fun i _ _ wr => ∃ (j : Nat), i = .int .i64 (2 * (j : Int) - 2) ∧ j ≤ ps.length ∧ Hid (BuildInv w wr G (ps.drop j))) (fun i _ _ _ => (intOf i + 2).toNat)
      case atStart => exact ⟨ps.length, rfl, Nat.le_refl _, hst⟩
      case round =>
        clear hst
        obtain ⟨j, rfl, hj, hI⟩ := hrel
        cases j with
        | zero =>
          go_wp2
          go_ret
          exact ⟨G, rfl, hI.out⟩
        | succ j =>
          have hjl : j < ps.length := by omega
          rw [show (2 * ((j + 1 : Nat) : Int) - 2) = ((2 * j : Nat) : Int) by omega]
          obtain ⟨e1, e2⟩ := HCS.out j hjl
          have hI' := hI.out
          obtain ⟨below, hGlt, C, v, hG, hC, hC256, hown, hvG, hents⟩ := hI'
          have hnotin : look (ps.drop (j + 1)) ps[j].1 = none := by
            refine look_none _ _ fun hm => ?_
            rw [List.map_drop] at hm
            have hnd2 := hnd
            rw [← List.take_append_drop j (ps.map (·.1)), List.nodup_append] at hnd2
            have hdj : (ps.map (·.1)).drop j = ps[j].1 :: (ps.map (·.1)).drop (j + 1) := by
              rw [List.drop_eq_getElem_cons (by simpa using hjl)]; simp
            have hnd3 := hnd2.2.1
            rw [hdj, List.nodup_cons] at hnd3
            exact hnd3.1 hm
          have hdrop : ps.drop j = (ps[j].1, ps[j].2) :: ps.drop (j + 1) := by rw [List.drop_eq_getElem_cons hjl]
          generalize ps[j].1 = o at e1 hnotin hdrop
          generalize ps[j].2 = nn at e2 hdrop
          generalize hk : 2 * j = k at e1 e2
          rw [← below.cell (p := ⟨ba, oa + k, none⟩) hba] at e1
          rw [← below.cell (p := ⟨ba, oa + (k + 1), none⟩) hba] at e2
          have hkb : k + 1 < n := by have := HN.out; omega
          have HK := Lib.hid hk
          have HD := Lib.hid hdrop
          have HE := Lib.hid hents
          obtain ⟨m, hm⟩ : ∃ m, (ps.drop (j + 1)).length = m := ⟨_, rfl⟩
          rw [hm] at hown
          have hm256 : m ≤ 256 := by rw [← hm, List.length_drop]; omega
          have HM := Lib.hid hm
          clear hm
          have HO := Lib.hid hown
          have HV := Lib.hid hvG
          have HB := Lib.hid below
          obtain ⟨u0, hu0, he0, _⟩ := hents o
          rw [hnotin] at he0
          have he0' : u0 = .slice none 0 0 := he0
          rw [he0'] at hu0
          have g0 : wr.cell? ⟨G, o.toNat, none⟩ = some (.slice none 0 0) := by rw [cell_heap hG]; exact hu0
          have g1 : wr.cell? ⟨G, 256, none⟩ = some v := by rw [cell_heap hG]; exact hC256
          have ho : o.toNat < 256 := o.toNat_lt
          have hidx : ∀ W, (Instr.index 9 (.string (str1 o)) (.int .i64 0)).run Tryz.prog W = .ok (.int .u8 o.toNat) W := fun W => by kernel_rfl
          have HG := Lib.hid hG
          have H256 := Lib.hid hC256
          clear he0' he0 hu0 hnotin hk hents hown hvG below hI hdrop hG hC256
          have hnil : ∀ W, (binOp .eql 75 (.slice none 0 0) (.slice none 0 0)).run Tryz.prog W = .ok (.bool true) W := fun W => Lib.run_eql_slice_nil W 75 5 none 0 0 0 0 Tryz.underlying75
          have hcs : ∀ W, (convert 75 9 (.slice (some ⟨wr.heap.size, 0, none⟩) 1 1)).run Tryz.prog (W : World) = (convert 75 9 (.slice (some ⟨wr.heap.size, 0, none⟩) 1 1)).run Tryz.prog W := fun _ => rfl
          clear hcs
          have hcs : (convert 75 9 (.slice (some ⟨wr.heap.size, 0, none⟩) 1 1)).run Tryz.prog (wr.alloc (.cells #[.int .u8 o.toNat] 5)) = .ok (.string (str1 o)) (wr.alloc (.cells #[.int .u8 o.toNat] 5)) := by
            refine run_bytes_str (s := str1 o) ⟨rfl, fun i hi => ?_⟩ 75 9 5 Tryz.underlying75 Tryz.underlying5 Tryz.underlying9 1
            have hi0 : i = 0 := by have : (bytesV (str1 o)).length = 1 := rfl; omega
            subst hi0
            refine ⟨wr.heap.size, 0, rfl, by simp, ?_⟩
            rw [cell_heap (heap_alloc_new wr _)]
            rfl
          have HST := Lib.hid (show str1 o = str1 o from rfl)
          have hGl : G < wr.heap.size := heap_lt HG.out
          have hGl1 : G < (wr.alloc (.cells #[.int .u8 o.toNat] 5)).heap.size := by simp; omega
          have hbl : w.heap.size ≤ wr.heap.size := HB.out.size
          generalize hon : o.toNat = on at *
          have HON := Lib.hid hon
          clear hon
          go_upto_region 34 with (at_builtin; go_loud (refine wpList_app (wr.alloc (.cells #[.int .u8 on] 5)) rfl _ _ 100 (by rfl) w.heap.size 9 is (.string ByteArray.empty) 1 16 Tryz.underlying100 his hisz his1 his2 rfl (by decide) _ _ _ (by rfl) (HO.out.alloc _) (wr.heap.size + 1) (by simp) 1 [.string (str1 o)] (by rfl) rfl (by simp [Value.oneCell']) (by simp; omega) (by decide) (by simp; omega) (fun v3 w3 hown3 happ3 => ?_)); obtain ⟨av, cv, rfl, hsl3⟩ := own_sl hown3; have c3 : w3.heap[G]? = some (.cells C 135 (0, 0)) := (happ3.keep (by simp; omega) HV.out).trans ((Below.heap_alloc _ _ _ (by simp; omega)).trans ((Below.heap_alloc _ _ _ (by omega)).trans HG.out)); have g3 : w3.cell? ⟨G, 256, none⟩ = some v := (cell_heap c3).trans H256.out; have f3 : w3.frozen? ⟨G, 256, none⟩ = false := frozen_heap c3; have H3 := Lib.hid c3; clear c3; have HA3 := Lib.hid happ3; clear happ3; have HO3 := Lib.hid hown3; clear hown3)
          have c5 := (Lib.bytesWorld_at_old (w3.setCell ⟨G, 256, none⟩ (.slice av (m + 1) cv)) 5 nn G (by simp [World.setCell]; exact heap_lt H3.out)).trans (setCell_heap H3.out _)
          have g5 : (Lib.bytesWorld (w3.setCell ⟨G, 256, none⟩ (.slice av (m + 1) cv)) 5 nn).cell? ⟨G, on, none⟩ = some (.slice none 0 0) := by
            rw [cell_heap c5, Array.getElem?_setIfInBounds_ne (by omega)]
            rw [← g0, cell_heap HG.out]
          have f5 : (Lib.bytesWorld (w3.setCell ⟨G, 256, none⟩ (.slice av (m + 1) cv)) 5 nn).frozen? ⟨G, on, none⟩ = false := frozen_heap c5
          have hbs := fun W => Lib.run_convert_string_bytes (P := Tryz.prog) W 9 75 5 nn Tryz.underlying9 Tryz.underlying75 Tryz.underlying5
          clear c5 g0 g1 g3 f3 hcs
          go_wp2_with fail
          go_roundw
          case rel =>
            refine ⟨j, by have := HK.out; congr 1; omega, by omega, ?_⟩
            show BuildInv _ _ _ _
            rw [HD.out, ← HON.out]
            refine BuildInv.step HB.out hGlt HG.out hC HV.out HE.out (fun k hk => (HO.out.lt k hk).1) (((Below.refl _ _).alloc (Nat.le_refl _) (.cells #[.int .u8 on] 5)).alloc (by simp) (.cells #[.string (str1 o)] 9)) HA3.out (by rw [HM.out]; exact HO3.out) ((bytesW_below _ _ _).mono (by simp [World.setCell])) ⟨_, _, rfl, ?_⟩ (fun h hh => ?_)
            · have := bytesW_sl (w3.setCell ⟨G, 256, none⟩ (.slice av (m + 1) cv)) 5 nn
              simpa [World.setCell] using this
            · injection hh with hh
              subst hh
              rw [Lib.bytesWorld_size]
              simp [World.setCell]
          case measure => simp [intOf]; omega
end Go.Proofs.YtmnloeolacmemaaGreat
