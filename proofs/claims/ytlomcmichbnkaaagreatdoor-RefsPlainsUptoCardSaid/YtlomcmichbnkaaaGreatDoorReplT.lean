/-
  strings.Replacer over pairs of one byte and a text: the table that its build makes.
-/
import Derived.Test.YtlomcmichbnkaaaGreatDoorOnce
import Derived.Lib.ConvBytes
import Derived.Test.YtlomcmichbnkaaaGreatDoorGenB
namespace Go.Proofs.YtlomcmichbnkaaaGreatDoor
open Go.RowKit

/-- a text of one byte -/
def str1 (o : UInt8) : ByteArray := ⟨#[o]⟩
def strsOf (ps : List (UInt8 × ByteArray)) : List Value := ps.flatMap fun p => [.string (str1 p.1), .string p.2]
theorem strsOf_length (ps : List (UInt8 × ByteArray)) : (strsOf ps).length = 2 * ps.length := by
  induction ps with
  | nil => rfl
  | cons p ps ih => simp [strsOf] at ih ⊢; omega
theorem strsOf_at (ps : List (UInt8 × ByteArray)) : ∀ j, (h : j < ps.length) → (strsOf ps)[2 * j]? = some (.string (str1 ps[j].1)) ∧ (strsOf ps)[2 * j + 1]? = some (.string ps[j].2) := by
  induction ps with
  | nil => intro j h; simp at h
  | cons p ps ih =>
    intro j h
    cases j with
    | zero => simp [strsOf]
    | succ j =>
      have := ih j (by simpa using h)
      simpa [strsOf, Nat.mul_succ] using this
def look (ps : List (UInt8 × ByteArray)) (o : UInt8) : Option ByteArray := (ps.find? fun p => p.1 == o).map (·.2)

/-- a cell of the table -/
def Ent (w : World) (v : Value) : Option ByteArray → Prop
  | none => v = .slice none 0 0
  | some n => ∃ h c, v = .slice (some ⟨h, 0, none⟩) n.size c ∧ Sl w (some ⟨h, 0, none⟩) n.size (bytesV n)
theorem Ent.keep {w w' : World} {v : Value} {x : Option ByteArray} (h : Ent w v x) (hk : ∀ k, v.ownBlock = some k → w'.heap[k]? = w.heap[k]?) : Ent w' v x := by
  cases x with
  | none => exact h
  | some n =>
    obtain ⟨k, c, rfl, hs⟩ := h
    exact ⟨k, c, rfl, hs.keep fun b o e => by injection e with e; injection e with e1 e2; subst e1; exact hk _ rfl⟩

/-- the cells of a slice of pairs -/
theorem strs_cells {w : World} {a : Option Addr} {n : Nat} {ps : List (UInt8 × ByteArray)} (hs : Sl w a n (strsOf ps)) (h0 : 0 < ps.length) :
    ∃ b o, a = some ⟨b, o, none⟩ ∧ b < w.heap.size ∧ ∀ j, (hj : j < ps.length) → w.cell? ⟨b, o + 2 * j, none⟩ = some (.string (str1 ps[j].1)) ∧ w.cell? ⟨b, o + (2 * j + 1), none⟩ = some (.string ps[j].2) := by
  obtain ⟨b, o, rfl, hb, _⟩ := hs.cell 0 (by rw [strsOf_length]; omega)
  refine ⟨b, o, rfl, hb, fun j hj => ?_⟩
  obtain ⟨e1, e2⟩ := strsOf_at ps j hj
  have key : ∀ i v, (strsOf ps)[i]? = some v → w.cell? ⟨b, o + i, none⟩ = some v := by
    intro i v hv
    obtain ⟨hi, hv2⟩ := List.getElem?_eq_some_iff.1 hv
    obtain ⟨b', o', e, _, hc⟩ := hs.cell i hi
    injection e with e
    injection e with e3 e4
    subst e3
    subst e4
    rw [hc, hv2]
  exact ⟨key _ _ e1, key _ _ e2⟩

/-- the table's cells: no byte has a form yet; v: what is to be replaced -/
def tab0 (v : Value) : Array Value := (Array.replicate 256 (.slice none 0 0)).push v
theorem tab0_size (v : Value) : (tab0 v).size = 257 := by simp [tab0]
theorem tab0_one (a : Option Addr) (n c : Nat) : (tab0 (.slice a n c)).all (·.oneCell') = true := by
  rw [Array.all_eq_true_iff_forall_mem]
  intro v hv
  simp only [tab0, Array.mem_push, Array.mem_replicate] at hv
  rcases hv with ⟨_, rfl⟩ | rfl <;> rfl
theorem build_tab (a : Option Addr) (n c : Nat) (w : World) : (Instr.build 127 #[(1, .slice a n c)]).run Tryz.prog w = .ok (.agg (tab0 (.slice a n c))) w := by kernel_rfl
theorem info_tab : (Tryz.prog.info? 127).map (fun i => (i.zero, i.size)) = some (some (.agg (tab0 (.slice none 0 0))), 257) := by kernel_rfl
theorem info_str : (Tryz.prog.info? 9).map (fun i => (i.zero, i.size, i.bytes)) = some (some (.string ByteArray.empty), 1, 16) := by kernel_rfl
theorem info_parts2 {P : Program} {e : TypeId} {z : Value} {size : Nat} (h : (P.info? e).map (fun i => (i.zero, i.size)) = some (some z, size)) :
    ∃ i, P.info? e = some i ∧ i.zero = some z ∧ i.size = size := by
  cases hi : P.info? e with
  | none => rw [hi] at h; cases h
  | some i => rw [hi] at h; simp at h; exact ⟨i, rfl, h.1, h.2⟩

theorem look_cons (p : UInt8 × ByteArray) (ps : List (UInt8 × ByteArray)) (o : UInt8) : look (p :: ps) o = if p.1 = o then some p.2 else look ps o := by
  unfold look
  by_cases h : p.1 = o
  · rw [List.find?_cons_of_pos (by simp [h]), if_pos h]; rfl
  · rw [List.find?_cons_of_neg (by simp [h]), if_neg h]
theorem look_none (ps : List (UInt8 × ByteArray)) (o : UInt8) (h : o ∉ ps.map (·.1)) : look ps o = none := by
  induction ps with
  | nil => rfl
  | cons p ps ih =>
    simp only [List.map_cons, List.mem_cons, not_or] at h
    rw [look_cons, if_neg (fun e => h.1 e.symm), ih h.2]

/-- what stands while the table is filled: ps has been laid, in the table of block G of wr; w: the world in which the call began -/
structure BuildInv (w wr : World) (G : Nat) (ps : List (UInt8 × ByteArray)) : Prop where
  below : Below w.heap.size w wr
  lt : w.heap.size < G
  tab : ∃ (C : Array Value) (v : Value), wr.heap[G]? = some (.cells C 127 (0, 0)) ∧ C.size = 257 ∧ C[256]? = some v ∧ wr.ownsRow w.heap.size 9 1 v ps.length (ps.reverse.map fun p => Value.string (str1 p.1)) ∧ v.ownBlock ≠ some G ∧
    (∀ o : UInt8, ∃ u, C[o.toNat]? = some u ∧ Ent wr u (look ps o) ∧ ∀ h, u.ownBlock = some h → v.ownBlock ≠ some h ∧ h ≠ G ∧ h < wr.heap.size ∧ w.heap.size ≤ h)
/-- one pair more -/
theorem BuildInv.step {w wr w2 w3 w4 : World} {G : Nat} {ps : List (UInt8 × ByteArray)} {o : UInt8} {nn : ByteArray} {C : Array Value} {v v3 u4 : Value}
    (below : Below w.heap.size w wr) (lt : w.heap.size < G) (hG : wr.heap[G]? = some (.cells C 127 (0, 0))) (hC : C.size = 257)
    (hvG : v.ownBlock ≠ some G)
    (ents : ∀ o : UInt8, ∃ u, C[o.toNat]? = some u ∧ Ent wr u (look ps o) ∧ ∀ h, u.ownBlock = some h → v.ownBlock ≠ some h ∧ h ≠ G ∧ h < wr.heap.size ∧ w.heap.size ≤ h)
    (hold : ∀ k, v.ownBlock = some k → w.heap.size ≤ k)
    (h2 : Below wr.heap.size wr w2) (h3 : App w2 w3 v v3) (own3 : w3.ownsRow w.heap.size 9 1 v3 (ps.length + 1) (ps.reverse.map (fun p => Value.string (str1 p.1)) ++ [.string (str1 o)]))
    (h4 : Below w3.heap.size (w3.setCell ⟨G, 256, none⟩ v3) w4) (hu4 : Ent w4 u4 (some nn)) (hub : ∀ h, u4.ownBlock = some h → w3.heap.size ≤ h ∧ h < w4.heap.size) :
    BuildInv w (w4.setCell ⟨G, o.toNat, none⟩ u4) G ((o, nn) :: ps) := by
  have hGl := heap_lt hG
  have hG2 : w2.heap[G]? = some (.cells C 127 (0, 0)) := (h2.block G hGl).trans hG
  have hGl2 := heap_lt hG2
  have hG3 : w3.heap[G]? = some (.cells C 127 (0, 0)) := (h3.keep hGl2 hvG).trans hG2
  have hGl3 := heap_lt hG3
  have hvG3 := h3.ne hGl2 hvG
  have hG4 : w4.heap[G]? = some (.cells (C.setIfInBounds 256 v3) 127 (0, 0)) := (h4.block G hGl3).trans (setCell_heap hG3 v3)
  have hG5 := setCell_heap (i := o.toNat) hG4 u4
  have ho : o.toNat < 256 := o.toNat_lt
  have hsz2 : wr.heap.size ≤ w2.heap.size := h2.size
  have hsz3 : w2.heap.size ≤ w3.heap.size := h3.grown.size
  have hsz4 : w3.heap.size ≤ w4.heap.size := by have := h4.size; simpa [World.setCell] using this
  have keep : ∀ k, k < wr.heap.size → v.ownBlock ≠ some k → k ≠ G → (w4.setCell ⟨G, o.toNat, none⟩ u4).heap[k]? = wr.heap[k]? := by
    intro k hk hv hkG
    rw [Below.heap_setCell _ _ _ _ hkG, h4.block k (by omega), Below.heap_setCell _ _ _ _ hkG, h3.keep (by omega) hv, h2.block k hk]
  refine ⟨?_, lt, (C.setIfInBounds 256 v3).setIfInBounds o.toNat u4, v3, hG5, by simp [hC], ?_, ?_, hvG3, ?_⟩
  · have b2 : Below w.heap.size w w2 := below.trans (h2.mono below.size)
    have b3 : Below w.heap.size w w3 := b2.trans (h3.below (by have := below.size; omega) hold)
    have b4 : Below w.heap.size w w4 := (b3.setCell (p := ⟨G, 256, none⟩) (by show w.heap.size ≤ G; omega) v3).trans (h4.mono (by have := below.size; simp; omega))
    exact b4.setCell (p := ⟨G, o.toNat, none⟩) (by show w.heap.size ≤ G; omega) u4
  · rw [Array.getElem?_setIfInBounds_ne (by omega)]
    simp [hC]
  · have e : ((o, nn) :: ps).reverse.map (fun p => Value.string (str1 p.1)) = ps.reverse.map (fun p => Value.string (str1 p.1)) ++ [.string (str1 o)] := by simp
    rw [e]
    refine own_block own3 fun k hk => ?_
    have hkl := own3.lt k hk
    have hkG : k ≠ G := fun e => hvG3 (by rw [hk, e])
    rw [Below.heap_setCell _ _ _ _ hkG, h4.block k hkl.2, Below.heap_setCell _ _ _ _ hkG]
  · intro q
    by_cases hq : q = o
    · subst hq
      refine ⟨u4, by simp [hC, Array.getElem?_setIfInBounds]; omega, ?_, ?_⟩
      · rw [look_cons, if_pos rfl]
        exact hu4.keep fun k hk => Below.heap_setCell _ _ _ _ (show k ≠ G by have := hub k hk; omega)
      · intro h hh
        have hb := hub h hh
        refine ⟨fun e => ?_, by omega, by simpa [World.setCell] using hb.2, by have := below.size; omega⟩
        have := own3.lt h e
        omega
    · have hqo : q.toNat ≠ o.toNat := fun e => hq (UInt8.toNat_inj.1 e)
      have hq256 : q.toNat < 256 := q.toNat_lt
      obtain ⟨u, hu, he, hb⟩ := ents q
      refine ⟨u, ?_, ?_, ?_⟩
      · rw [Array.getElem?_setIfInBounds_ne (by omega), Array.getElem?_setIfInBounds_ne (by omega)]; exact hu
      · rw [look_cons, if_neg (fun e => hq e.symm)]
        exact he.keep fun k hk => keep k (hb k hk).2.2.1 (hb k hk).1 (hb k hk).2.1
      · intro h hh
        obtain ⟨h1, h2', h3', h4'⟩ := hb h hh
        refine ⟨h3.ne (by omega) h1, h2', ?_, h4'⟩
        simp only [World.setCell, Array.size_modify]
        omega
end Go.Proofs.YtlomcmichbnkaaaGreatDoor
