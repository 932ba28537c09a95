/-
  half: the nodes in memory; rows of numbers in the making.
-/
import Derived.Test.YtklpihaelaagpaaDoorLgK
import Derived.Test.YtklpihaelaagpaaDoorLgG
namespace Go.Proofs.YtklpihaelaagpaaDoor
open Go.RowKit

def tsC (l : List Int) : List Value := l.map (Value.int .i64)
theorem tsC_len (l : List Int) : (tsC l).length = l.length := by simp [tsC]
theorem tsC_set (l : List Int) (k : Nat) (v : Int) : (tsC l).set k (.int .i64 v) = tsC (l.set k v) := by unfold tsC; rw [List.map_set]
theorem tsC_at (l : List Int) (k : Nat) (h : k < l.length) : (tsC l)[k]? = some (.int .i64 l[k]) := by unfold tsC; rw [List.getElem?_map, List.getElem?_eq_getElem h]; rfl
theorem tsC_zero (n : Nat) : (madeCells #[Value.int .i64 0] n).toList = tsC (List.replicate n 0) := by
  unfold madeCells tsC
  refine List.ext_getElem (by simp) fun i h1 h2 => ?_
  simp [Nat.mod_one]
def mixR (n k : Nat) (g h : Nat → Int) : List Int := rowOf n fun j => if j < k then g j else h j
theorem mixR_len (n k : Nat) (g h : Nat → Int) : (mixR n k g h).length = n := rowOf_len ..
theorem rowOf_get (n : Nat) (g : Nat → Int) (k : Nat) (h : k < (rowOf n g).length) : (rowOf n g)[k] = g k := by simp [rowOf]
theorem rowOf_congr {n : Nat} {g h : Nat → Int} (e : ∀ j, j < n → g j = h j) : rowOf n g = rowOf n h := by
  unfold rowOf
  exact List.map_congr_left fun j hj => e j (List.mem_range.1 hj)
theorem rowOf_getD (n : Nat) (g : Nat → Int) (k : Nat) (h : k < n) : (rowOf n g).getD k 0 = g k := by rw [List.getD_eq_getElem?_getD, rowOf_at n g k h]; rfl
theorem rowOf_self (n : Nat) (l : List Int) (h : l.length = n) : rowOf n (fun j => l.getD j 0) = l := by
  refine List.ext_getElem (by rw [rowOf_len, h]) fun i h1 h2 => ?_
  rw [rowOf_get]; simp [h2]
theorem mixR_zero (n : Nat) (g h : Nat → Int) : mixR n 0 g h = rowOf n h := rowOf_congr fun j _ => if_neg (Nat.not_lt_zero j)
theorem mixR_all (n : Nat) (g h : Nat → Int) : mixR n n g h = rowOf n g := rowOf_congr fun _ hj => if_pos hj
theorem mixR_set (n k : Nat) (g h : Nat → Int) (v : Int) (hv : v = g k) : (mixR n k g h).set k v = mixR n (k + 1) g h := by
  subst hv
  refine List.ext_getElem (by rw [List.length_set, mixR_len, mixR_len]) fun i h1 h2 => ?_
  rw [List.getElem_set, show (mixR n k g h)[i]'(by rw [List.length_set] at h1; exact h1) = (if i < k then g i else h i) from rowOf_get _ _ _ _, show (mixR n (k + 1) g h)[i]'h2 = (if i < k + 1 then g i else h i) from rowOf_get _ _ _ _]
  by_cases e : k = i
  · subst e; rw [if_pos rfl, if_pos (Nat.lt_succ_self _)]
  · rw [if_neg e]
    by_cases e2 : i < k
    · rw [if_pos e2, if_pos (by omega)]
    · rw [if_neg e2, if_neg (by omega)]
theorem mixR_get (n k i : Nat) (g h : Nat → Int) (hi : i < n) (hk : k ≤ i) : (mixR n k g h)[i]? = some (h i) := by
  unfold mixR; rw [rowOf_at _ _ _ hi, if_neg (by omega)]
structure HAt (w : World) (hb : Nat) (hs : List HN) : Prop where
  lt : hb < w.heap.size
  pos : 1 ≤ hs.length
  cap : hs.length ≤ 1048577
  par : ∀ (i : Nat) (h : HN), hs[i]? = some h → 1 ≤ i → 0 ≤ h.par ∧ h.par < (i : Int)
  row : ∃ (a : Option Addr) (c : Nat), w.cell? ⟨hb, 1, none⟩ = some (.slice a hs.length c) ∧ ∀ i, (h : i < hs.length) → ∃ (b o : Nat) (A : Option Addr) (m c : Nat), a = some ⟨b, o, none⟩ ∧ b < w.heap.size ∧ m ≤ c ∧ m ≤ 1048576 ∧ AttrsAt w A m hs[i].ev.ats ∧ (∀ p ∈ hs[i].ev.ats, p.2.length ≤ 1048576) ∧ hs[i].txt.length ≤ 1048576 ∧
    ∀ j, j < 14 → w.cell? ⟨b, o + i * 14 + j, none⟩ = (hnL hs[i] A m c)[j]?
theorem HAt.below {w w' : World} {hb : Nat} {hs : List HN} (h : HAt w hb hs) (hB : Below w.heap.size w w') : HAt w' hb hs := by
  obtain ⟨h1, h2, h3, hp, a, c, h4, h5⟩ := h
  refine ⟨Nat.lt_of_lt_of_le h1 hB.size, h2, h3, hp, a, c, (hB.cell (p := ⟨hb, 1, none⟩) h1).trans h4, fun i hi => ?_⟩
  obtain ⟨b, o, A, m, c, g1, g2, g3, g4, g5, g6, g7, g8⟩ := h5 i hi
  exact ⟨b, o, A, m, c, g1, Nat.lt_of_lt_of_le g2 hB.size, g3, g4, g5.below hB, g6, g7, fun j hj => (hB.cell (p := ⟨b, o + i * 14 + j, none⟩) g2).trans (g8 j hj)⟩
theorem HAt.get {w : World} {hb : Nat} {hs : List HN} (h : HAt w hb hs) : ∃ (a : Option Addr) (c : Nat), hb < w.heap.size ∧ (∀ W, Below w.heap.size w W → W.cell? ⟨hb, 1, none⟩ = some (.slice a hs.length c)) ∧ ∀ i, (hi : i < hs.length) → ∃ (b o : Nat) (A : Option Addr) (m c : Nat), a = some ⟨b, o, none⟩ ∧ b < w.heap.size ∧ m ≤ 1048576 ∧ AttrsAt w A m hs[i].ev.ats ∧ (∀ p ∈ hs[i].ev.ats, p.2.length ≤ 1048576) ∧ hs[i].txt.length ≤ 1048576 ∧
    ∀ W, Below w.heap.size w W → W.cell? ⟨b, o + i * 14, none⟩ = some (.int .i64 hs[i].ev.kind) ∧ W.cell? ⟨b, o + i * 14 + 1, none⟩ = some (.int .i64 hs[i].ev.num) ∧ W.cell? ⟨b, o + i * 14 + 2, none⟩ = some (.int .i64 hs[i].ev.dep) ∧ W.cell? ⟨b, o + i * 14 + 3, none⟩ = some (.string (strL hs[i].ev.name)) ∧ W.cell? ⟨b, o + i * 14 + 4, none⟩ = some (.slice A m c) ∧ W.cell? ⟨b, o + i * 14 + 5, none⟩ = some (.string (strL hs[i].ev.text)) ∧ W.cell? ⟨b, o + i * 14 + 6, none⟩ = some (.int .i64 hs[i].ev.fr) ∧ W.cell? ⟨b, o + i * 14 + 7, none⟩ = some (.int .i64 hs[i].ev.tt) ∧ W.cell? ⟨b, o + i * 14 + 8, none⟩ = some (.int .i64 hs[i].kd) ∧ W.cell? ⟨b, o + i * 14 + 9, none⟩ = some (.int .i64 hs[i].par) ∧ W.cell? ⟨b, o + i * 14 + 10, none⟩ = some (.bool hs[i].op) ∧ W.cell? ⟨b, o + i * 14 + 11, none⟩ = some (.string (strL hs[i].txt)) ∧ W.cell? ⟨b, o + i * 14 + 12, none⟩ = some (.int .i64 hs[i].bg) ∧ W.cell? ⟨b, o + i * 14 + 13, none⟩ = some (.int .i64 hs[i].en) := by
  obtain ⟨h1, h2, h3, _, a, c, h4, h5⟩ := h
  refine ⟨a, c, h1, fun W hW => (hW.cell (p := ⟨hb, 1, none⟩) h1).trans h4, fun i hi => ?_⟩
  obtain ⟨b, o, A, m, c, g1, g2, g3, g4, g5, g6, g7, g8⟩ := h5 i hi
  refine ⟨b, o, A, m, c, g1, g2, g4, g5, g6, g7, fun W hW => ?_⟩
  have k := fun j (hj : j < 14) => (hW.cell (p := ⟨b, o + i * 14 + j, none⟩) g2).trans (g8 j hj)
  exact ⟨k 0 (by decide), k 1 (by decide), k 2 (by decide), k 3 (by decide), k 4 (by decide), k 5 (by decide), k 6 (by decide), k 7 (by decide), k 8 (by decide), k 9 (by decide), k 10 (by decide), k 11 (by decide), k 12 (by decide), k 13 (by decide)⟩
structure MI (w : World) (k : Nat) (o : Obj) (P n : Nat) (l : List Int) (W : World) : Prop where
  old : Below w.heap.size w W
  box : W.heap[k]? = some o
  lo : w.heap.size ≤ P
  ne : k ≠ P
  own : W.ownsRow P 41 1 (.slice (some ⟨P, 0, none⟩) n n) n (tsC l)
  len : l.length = n
theorem MI.below {w W W' : World} {k P n : Nat} {o : Obj} {l : List Int} (h : MI w k o P n l W) (hb : Below W.heap.size W W') : MI w k o P n l W' :=
  ⟨h.old.trans (hb.mono h.old.size), (hb.block _ (by have := h.box; exact (Array.getElem?_eq_some_iff.1 this).1)).trans h.box, h.lo, h.ne, own_block h.own fun j hj => by cases hj; exact hb.block _ (h.own.lt _ rfl).2, h.len⟩
theorem MI.set {w W : World} {k P n : Nat} {o : Obj} {l : List Int} (h : MI w k o P n l W) (i : Nat) (v : Int) : MI w k o P n (l.set i v) (W.setCell ⟨P, i, none⟩ (.int .i64 v)) :=
  ⟨h.old.setCell (p := ⟨P, i, none⟩) h.lo _, (Below.heap_setCell _ _ _ _ h.ne).trans h.box, h.lo, h.ne, by rw [← tsC_set]; exact (h.own.stored i _).1, by rw [List.length_set]; exact h.len⟩
theorem MI.at {w W : World} {k P n : Nat} {o : Obj} {l : List Int} (h : MI w k o P n l W) (i : Nat) (hi : i < n) : W.cell? ⟨P, i, none⟩ = some (.int .i64 (l.getD i 0)) := by
  have hl : i < l.length := by rw [h.len]; exact hi
  rw [h.own.cellAt i (by omega), tsC_at l i hl]; simp [hl]
theorem MI.ts {w W : World} {k P n : Nat} {o : Obj} {l : List Int} (h : MI w k o P n l W) : TsAt W (some ⟨P, 0, none⟩) n l :=
  ⟨h.len.symm, fun i hi => ⟨P, 0, rfl, (h.own.lt _ rfl).2, by rw [Nat.zero_add, h.own.cellAt i (by have := h.len; omega), tsC_at l i hi]⟩⟩
theorem MI.frozen {w W : World} {k P n : Nat} {o : Obj} {l : List Int} (h : MI w k o P n l W) (i : Nat) : W.frozen? ⟨P, i, none⟩ = false := h.own.frozenAt i
theorem TsAt.get {w : World} {a : Option Addr} {n : Nat} {l : List Int} (h : TsAt w a n l) (i : Nat) (hi : i < n) : ∃ b o, a = some ⟨b, o, none⟩ ∧ b < w.heap.size ∧ ∀ W, Below w.heap.size w W → W.cell? ⟨b, o + i, none⟩ = some (.int .i64 (l.getD i 0)) := by
  have hl : i < l.length := by rw [← h.len]; exact hi
  obtain ⟨b, o, e, h1, h2⟩ := h.at' i hl
  exact ⟨b, o, e, h1, fun W hW => by rw [hW.cell (p := ⟨b, o + i, none⟩) h1, h2]; simp [hl]⟩
theorem TsAt.at0 {w : World} {P n : Nat} {l : List Int} (h : TsAt w (some ⟨P, 0, none⟩) n l) (i : Nat) (hi : i < n) : w.cell? ⟨P, i, none⟩ = some (.int .i64 (l.getD i 0)) ∧ P < w.heap.size := by
  have hl : i < l.length := by rw [← h.len]; exact hi
  obtain ⟨b, o, e, h1, h2⟩ := h.at' i hl
  cases e
  rw [Nat.zero_add] at h2
  exact ⟨by rw [h2]; simp [hl], h1⟩
theorem MI.far {w W : World} {k P n : Nat} {o : Obj} {l : List Int} (h : MI w k o P n l W) {Q : Nat} (hQ : w.heap.size ≤ Q) (hk : k ≠ Q) (hP : P ≠ Q) (i : Nat) (v : Value) : MI w k o P n l (W.setCell ⟨Q, i, none⟩ v) :=
  ⟨h.old.setCell (p := ⟨Q, i, none⟩) hQ _, (Below.heap_setCell _ _ _ _ hk).trans h.box, h.lo, h.ne, own_block h.own fun j hj => by cases hj; exact Below.heap_setCell _ _ _ _ hP, h.len⟩
theorem MI.made {w W W' : World} {k n : Nat} {o : Obj} (hold : Below w.heap.size w W) (hbox : W.heap[k]? = some o)
    (hown : W'.ownsRow W.heap.size 41 1 (.slice (some ⟨W.heap.size, 0, none⟩) n n) n (madeCells (Value.int .i64 0).cells (n * 1)).toList) (hgr : W.grownBy W' none) : MI w k o W.heap.size n (List.replicate n 0) W' ∧ Below W.heap.size W W' := by
  have hb := (Below.refl W.heap.size W).grown hgr (Nat.le_refl _) (fun k hk => by cases hk)
  have hk : k < W.heap.size := (Array.getElem?_eq_some_iff.1 hbox).1
  refine ⟨⟨hold.trans (hb.mono hold.size), (hb.block _ hk).trans hbox, hold.size, by omega, ?_, by simp⟩, hb⟩
  rw [Nat.mul_one, show (Value.int .i64 0).cells = #[.int .i64 0] from rfl, tsC_zero] at hown
  exact hown
structure MB (w : World) (k : Nat) (o : Obj) (P0 P1 P2 n : Nat) (h l m : List Int) (W : World) : Prop where
  ts : TsAt W (some ⟨P0, 0, none⟩) n h
  one : MI w k o P1 n l W
  two : MI w k o P2 n m W
  n01 : P0 ≠ P1
  n02 : P0 ≠ P2
  n12 : P1 ≠ P2
theorem MB.below {w W W' : World} {k P0 P1 P2 n : Nat} {o : Obj} {h l m : List Int} (H : MB w k o P0 P1 P2 n h l m W) (hb : Below W.heap.size W W') : MB w k o P0 P1 P2 n h l m W' :=
  ⟨H.ts.below hb, H.one.below hb, H.two.below hb, H.n01, H.n02, H.n12⟩
theorem MB.set1 {w W : World} {k P0 P1 P2 n : Nat} {o : Obj} {h l m : List Int} (H : MB w k o P0 P1 P2 n h l m W) (i : Nat) (v : Int) : MB w k o P0 P1 P2 n h (l.set i v) m (W.setCell ⟨P1, i, none⟩ (.int .i64 v)) :=
  ⟨H.ts.far (fun ad e => by cases e; exact H.n01) _, H.one.set i v, H.two.far H.one.lo H.one.ne (fun e => H.n12 e.symm) i _, H.n01, H.n02, H.n12⟩
theorem MB.set2 {w W : World} {k P0 P1 P2 n : Nat} {o : Obj} {h l m : List Int} (H : MB w k o P0 P1 P2 n h l m W) (i : Nat) (v : Int) : MB w k o P0 P1 P2 n h l (m.set i v) (W.setCell ⟨P2, i, none⟩ (.int .i64 v)) :=
  ⟨H.ts.far (fun ad e => by cases e; exact H.n02) _, H.one.far H.two.lo H.two.ne H.n12 i _, H.two.set i v, H.n01, H.n02, H.n12⟩
theorem ts_two {W : World} {Q : Nat} {a b : Int} (h : W.heap[Q]? = some (.cells #[.int .i64 a, .int .i64 b] 41 (0, 0))) : TsAt W (some ⟨Q, 0, none⟩) 2 [a, b] :=
  ⟨rfl, fun i hi => ⟨Q, 0, rfl, (Array.getElem?_eq_some_iff.1 h).1, by
    rw [cell_heap h]
    match i, hi with
    | 0, _ => rfl
    | 1, _ => rfl⟩⟩
theorem ts_three {W : World} {Q : Nat} {a b c : Int} (h : W.heap[Q]? = some (.cells #[.int .i64 a, .int .i64 b, .int .i64 c] 41 (0, 0))) : TsAt W (some ⟨Q, 0, none⟩) 3 [a, b, c] :=
  ⟨rfl, fun i hi => ⟨Q, 0, rfl, (Array.getElem?_eq_some_iff.1 h).1, by
    rw [cell_heap h]
    match i, hi with
    | 0, _ => rfl
    | 1, _ => rfl
    | 2, _ => rfl⟩⟩
theorem infoTru : (Tryd.prog.info? 41).map (fun i => (i.zero, i.size, i.bytes)) = some (some (.int .i64 0), 1, 8) := by kernel_rfl
end Go.Proofs.YtklpihaelaagpaaDoor
