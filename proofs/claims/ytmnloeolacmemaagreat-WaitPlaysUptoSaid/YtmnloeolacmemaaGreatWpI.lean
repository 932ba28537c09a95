/-
  Rows that are owned and may begin anywhere in their block: append of one, the first left out, a cell set. No program is named here.
-/
import Derived.Test.YtmnloeolacmemaaGreatWpH
import Derived.ArgAppend
import Derived.Maps.OwnSet
namespace Go.Proofs.YtmnloeolacmemaaGreat
open Go.RowKit

/-- v is a slice of n elements, whose cells are xs; its block is a row of cells, nothing frozen -/
def QRow (w : World) (e : TypeId) (size : Nat) (v : Value) (n : Nat) (xs : List Value) : Prop :=
  xs.length = n * size ∧ ((∃ A, v = .slice A 0 0 ∧ n = 0) ∨
    ∃ g off cap cur, v = .slice (some ⟨g, off, none⟩) n cap ∧ w.heap[g]? = some (.cells cur e (0, 0)) ∧ n ≤ cap ∧ cap ≤ maxLen ∧ cur.size = off + cap * size ∧ (cur.toList.drop off).take (n * size) = xs)

section
variable {P : Program} {w : World} {e : TypeId} {size : Nat} {v : Value} {n : Nat} {xs : List Value}
theorem QRow.nil (w : World) (e : TypeId) (size : Nat) (A : Option Addr) : QRow w e size (.slice A 0 0) 0 [] := ⟨by simp, .inl ⟨A, rfl, rfl⟩⟩
theorem QRow.own {base : Nat} (h : w.ownsRow base e size v n xs) : QRow w e size v n xs := by
  obtain ⟨h1, h2⟩ := h
  refine ⟨h1, ?_⟩
  rcases h2 with ⟨rfl, rfl⟩ | ⟨g, cap, cur, rfl, _, hh, h5, h6, h7, h8⟩
  · exact .inl ⟨_, rfl, rfl⟩
  · exact .inr ⟨g, 0, cap, cur, rfl, hh, h5, h6, by omega, by simpa using h8⟩
theorem QRow.keep {w' : World} (h : QRow w e size v n xs) (hk : ∀ k, v.ownBlock = some k → w'.heap[k]? = w.heap[k]?) : QRow w' e size v n xs := by
  obtain ⟨h1, h2⟩ := h
  refine ⟨h1, ?_⟩
  rcases h2 with h2 | ⟨g, off, cap, cur, rfl, hh, r⟩
  · exact .inl h2
  · exact .inr ⟨g, off, cap, cur, rfl, by rw [hk g rfl]; exact hh, r⟩
/-- its cells -/
theorem QRow.slice (h : QRow w e size v n xs) : ∃ a c, v = .slice a n c ∧ n ≤ c := by
  rcases h.2 with ⟨A, rfl, rfl⟩ | ⟨g, off, cap, cur, rfl, _, h5, _⟩
  · exact ⟨_, _, rfl, Nat.le_refl _⟩
  · exact ⟨_, _, rfl, h5⟩
theorem QRow.here (h : QRow w e size v (n + 1) xs) : ∃ g off c, v = .slice (some ⟨g, off, none⟩) (n + 1) c ∧ n + 1 ≤ c ∧ g < w.heap.size ∧ (∀ i, w.frozen? ⟨g, i, none⟩ = false) ∧ ∀ j u, xs[j]? = some u → w.cell? ⟨g, off + j, none⟩ = some u := by
  obtain ⟨h1, h2⟩ := h
  rcases h2 with ⟨A, _, h2⟩ | ⟨g, off, cap, cur, rfl, hh, h5, h6, h7, h8⟩
  · omega
  · refine ⟨g, off, cap, rfl, h5, heap_lt hh, fun i => frozen_heap hh, fun j u hj => ?_⟩
    rw [cell_heap hh]
    rw [← h8] at hj
    rw [List.getElem?_take] at hj
    split at hj
    · simpa using hj
    · cases hj
theorem setCells_mid (b : Nat) (t : TypeId) (post : List Value) (vs : List Value) : ∀ (w : World) (pre old : List Value), w.heap[b]? = some (.cells (pre ++ (old ++ post)).toArray t (0, 0)) → old.length = vs.length →
    (w.setCells b pre.length vs).heap[b]? = some (.cells (pre ++ (vs ++ post)).toArray t (0, 0)) ∧ (∀ j, j ≠ b → (w.setCells b pre.length vs).heap[j]? = w.heap[j]?) ∧ (w.setCells b pre.length vs).heap.size = w.heap.size ∧ (w.setCells b pre.length vs).os = w.os ∧ (w.setCells b pre.length vs).tape = w.tape ∧ (w.setCells b pre.length vs).output = w.output := by
  induction vs with
  | nil =>
    intro w pre old hb hl
    obtain rfl : old = [] := by simpa using hl
    exact ⟨hb, fun _ _ => rfl, rfl, rfl, rfl, rfl⟩
  | cons v vs ih =>
    intro w pre old hb hl
    cases old with
    | nil => simp at hl
    | cons u old =>
      have h1 := setCell_heap (i := pre.length) hb v
      have h2 : (pre ++ (u :: old ++ post)).toArray.setIfInBounds pre.length v = ((pre ++ [v]) ++ (old ++ post)).toArray := by
        rw [List.cons_append, setIfInBounds_pre pre (old ++ post) v u]; simp
      rw [h2] at h1
      have h3 := ih (w.setCell ⟨b, pre.length, none⟩ v) (pre ++ [v]) old h1 (by simpa using hl)
      rw [List.length_append, List.length_singleton] at h3
      rw [World.setCells]
      obtain ⟨a1, a2, a3, a4, a5, a6⟩ := h3
      refine ⟨by simpa using a1, fun j hj => (a2 j hj).trans (Below.heap_setCell _ _ _ _ hj), a3.trans (by simp [World.setCell]), a4, a5, a6⟩
theorem cut3 (l : List Value) (o k m : Nat) (h : o + k + m ≤ l.length) : ∃ a b c d, l = a ++ (b ++ (c ++ d)) ∧ a.length = o ∧ b.length = k ∧ c.length = m ∧ b = (l.drop o).take k := by
  refine ⟨l.take o, (l.drop o).take k, ((l.drop o).drop k).take m, ((l.drop o).drop k).drop m, ?_, ?_, ?_, ?_, rfl⟩
  · rw [List.take_append_drop, List.take_append_drop, List.take_append_drop]
  · simp; omega
  · simp; omega
  · simp; omega
/-- append of one element -/
theorem run_qappend (t ty : TypeId) (i : TypeInfo) (z : Value) (bytes : Nat) (ht : P.underlying t = Option.some (.slice e)) (hi : P.info? e = Option.some i) (hz : i.zero = Option.some z)
    (hsize : i.size = size) (hby : i.bytes = bytes) (hzs : z.cells.size = size) (hsz : 0 < size) (h : QRow w e size v n xs)
    (ad : Addr) (c : Nat) (news : List Value) (hl : news.length = 1 * size) (hnews : ∀ j u, news[j]? = Option.some u → w.cell? (ad.add j) = Option.some u) (h1 : ∀ u ∈ news, u.oneCell' = true)
    (h63 : n + 1 ≤ maxLen) (hbytes : (n + 1) * bytes ≤ 140737488355328) :
    ∃ v' w', (Builtin.append_ #[t, t] ty #[v, .slice (Option.some ad) 1 c]).run P w = .ok v' w' ∧ QRow w' e size v' (n + 1) (xs ++ news) ∧ w.grownBy w' v.ownBlock ∧ (v'.ownBlock = v.ownBlock ∨ ∃ g, v'.ownBlock = Option.some g ∧ w.heap.size ≤ g) := by
  have hown : ∀ v' w', w'.ownsRow w.heap.size e size v' (n + 1) (xs ++ news) → w.grownBy w' none → QRow w' e size v' (n + 1) (xs ++ news) ∧ w.grownBy w' v.ownBlock ∧ (v'.ownBlock = v.ownBlock ∨ ∃ g, v'.ownBlock = Option.some g ∧ w.heap.size ≤ g) := by
    intro v' w' r1 r2
    refine ⟨QRow.own r1, ⟨r2.os, r2.tape, r2.output, r2.size, fun k hk _ => r2.block k hk (by simp)⟩, .inr ?_⟩
    have hlt := r1.lt
    rcases r1.2 with ⟨_, h0⟩ | ⟨g, cap, cur, rfl, hg, _⟩
    · omega
    · exact ⟨g, rfl, hg⟩
  rcases h.2 with ⟨A, rfl, rfl⟩ | ⟨g, off, cap, cur, rfl, hh, h5, h6, h7, h8⟩
  · have hx : xs = [] := List.eq_nil_of_length_eq_zero (by have := h.1; omega)
    subst hx
    cases A with
    | none =>
      obtain ⟨v', w', hr, r1, r2, _⟩ := run_append_own (P := P) w w.heap.size t ty e i z size bytes ht hi hz hsize hby hzs hsz (.slice none 0 0) 0 [] (World.ownsRow_nil w _ e size) ad 1 c news hl hnews h1 h63 hbytes (Nat.le_refl _)
      exact ⟨v', w', hr, hown v' w' r1 r2⟩
    | some a' =>
      obtain ⟨v', w', hr, r1, r2⟩ := run_append_arg_grows (P := P) w t ty e i z size bytes ht hi hz hsize hby hzs hsz a' 0 0 [] (by simp) (by intro _ _ h'; simp at h') ad 1 c news hl hnews (by omega) h63 hbytes
      exact ⟨v', w', hr, hown v' w' r1 r2⟩
  · by_cases hroom : n + 1 ≤ cap
    · have hfit : off + n * size + 1 * size ≤ cur.toList.length := by
        have := Nat.mul_le_mul_right size hroom
        rw [Nat.add_mul] at this
        rw [Array.length_toList, h7]; omega
      obtain ⟨pa, pb, pc, pd, e1, e2, e3, e4, e5⟩ := cut3 cur.toList off (n * size) (1 * size) hfit
      have hcur : cur = (pa ++ (pb ++ (pc ++ pd))).toArray := by rw [← e1]
      have hb' : pb = xs := by rw [e5, h8]
      have hlen0 : (pa ++ pb).length = off + n * i.size := by rw [List.length_append, e2, e3, hsize]
      have hh2 : w.heap[g]? = Option.some (.cells ((pa ++ pb) ++ (pc ++ pd)).toArray e (0, 0)) := by rw [hh, hcur, List.append_assoc]
      have hcell : ∀ j, j < news.length → (w.cell? ⟨g, off + n * i.size + j, none⟩).isSome = true := fun j hj => by
        rw [cell_heap hh2, ← hlen0]
        simp only [List.getElem?_toArray]
        rw [List.getElem?_append_right (by omega), Nat.add_sub_cancel_left, List.getElem?_append_left (by omega)]
        rw [List.getElem?_eq_getElem (by omega)]; rfl
      have hr := run_append_room_cells (P := P) w t ty e i ht hi g off n cap ad 1 c news (by rw [hsize]; exact hl) hnews h1 hroom hcell (fun j _ => frozen_heap hh)
      obtain ⟨g1, g2, g3, g4, g5, g6⟩ := setCells_mid g e pd news w (pa ++ pb) pc hh2 (by omega)
      rw [hlen0] at g1 g2 g3 g4 g5 g6
      refine ⟨_, _, hr, ⟨by rw [List.length_append, h.1, hl, Nat.add_mul], .inr ⟨g, off, cap, _, rfl, g1, hroom, h6, ?_, ?_⟩⟩, ⟨g4, g5, g6, Nat.le_of_eq g3.symm, fun k _ hk => g2 k (fun e => hk (by rw [e]; rfl))⟩, .inl rfl⟩
      · have hs : cur.size = (pa ++ (pb ++ (pc ++ pd))).length := by rw [hcur]; simp
        rw [h7] at hs
        simp only [List.size_toArray, List.length_append] at hs ⊢
        omega
      · have hx : (((pa ++ pb) ++ (news ++ pd)).toArray.toList.drop off) = (xs ++ news) ++ pd := by
          rw [List.toList_toArray, List.append_assoc, ← e2, List.drop_left, hb', List.append_assoc]
        rw [hx, List.take_left']
        rw [List.length_append, h.1, hl, Nat.add_mul]
    · have holds : ∀ j u, xs[j]? = Option.some u → w.cell? ((⟨g, off, none⟩ : Addr).add j) = Option.some u := by
        intro j u hj
        rw [Addr.add_lit, cell_heap hh]
        rw [← h8, List.getElem?_take] at hj
        split at hj
        · simpa using hj
        · cases hj
      obtain ⟨v', w', hr, r1, r2⟩ := run_append_arg_grows (P := P) w t ty e i z size bytes ht hi hz hsize hby hzs hsz ⟨g, off, none⟩ n cap xs h.1 holds ad 1 c news hl hnews (by omega) h63 hbytes
      exact ⟨v', w', hr, hown v' w' r1 r2⟩
/-- the first is left out -/
theorem QRow.tail {g off c : Nat} {ys : List Value} (h : QRow w e size (.slice (Option.some ⟨g, off, none⟩) (n + 1) c) (n + 1) (ys ++ xs)) (hy : ys.length = size) (hc : c ≠ 1) : QRow w e size (.slice (Option.some ⟨g, off + size, none⟩) n (c - 1)) n xs := by
  obtain ⟨h1, h2⟩ := h
  rcases h2 with ⟨A, h0, h2⟩ | ⟨g', off', cap', cur, hv, hh, h5, h6, h7, h8⟩
  · omega
  · cases hv
    rw [List.length_append, Nat.add_mul, hy] at h1
    have hx : xs.length = n * size := by omega
    obtain ⟨d, rfl⟩ : ∃ d, c = d + 1 := ⟨c - 1, by omega⟩
    refine ⟨hx, .inr ⟨g, off + size, d, cur, rfl, hh, by omega, by omega, by rw [h7, Nat.add_mul]; omega, ?_⟩⟩
    have h9 : (cur.toList.drop (off + size)).take (n * size) = ((cur.toList.drop off).take ((n + 1) * size)).drop size := by
      rw [List.drop_take, List.drop_drop, Nat.add_mul]
      congr 1
      omega
    rw [h9, h8, ← hy, List.drop_left]
/-- a cell of it is set -/
theorem QRow.set {g off c : Nat} (h : QRow w e size (.slice (Option.some ⟨g, off, none⟩) n c) n xs) (hn : 0 < n) (j : Nat) (u : Value) : QRow (w.setCell ⟨g, off + j, none⟩ u) e size (.slice (Option.some ⟨g, off, none⟩) n c) n (xs.set j u) := by
  obtain ⟨h1, h2⟩ := h
  rcases h2 with ⟨A, h0, h2⟩ | ⟨g', off', cap', cur, hv, hh, h5, h6, h7, h8⟩
  · omega
  · cases hv
    refine ⟨by simpa using h1, .inr ⟨g, off, c, _, rfl, setCell_heap hh u, h5, h6, by simpa using h7, ?_⟩⟩
    rw [← h8, Array.toList_setIfInBounds, List.drop_set, if_neg (by omega), Nat.add_sub_cancel_left, List.take_set]
end
/-- append of one element, which lies in the block that was made last -/
theorem wpList_qapp {P : Program} (w : World) {ops : Array Oper} {rest : List Oper} {o : Oper} {a : Act} {Q : Exit → Act → World → Prop} (hgd : o.guard = none) (s x : Operand) (t : TypeId)
    (ho : o.op = .call { callee := .builtin .append, args := #[s, x], argTypes := #[t, t] })
    (e : TypeId) (i : TypeInfo) (z : Value) (size bytes : Nat) (ht : P.underlying t = some (.slice e)) (hi : P.info? e = some i) (hz : i.zero = some z)
    (hsize : i.size = size) (hby : i.bytes = bytes) (hzs : z.cells.size = size) (hsz : 0 < size)
    (v : Value) (n : Nat) (xs : List Value) (hs : a.eval s = v) (hown : QRow w e size v n xs) (hlt : ∀ k, v.ownBlock = some k → k < w.heap.size)
    (H : Nat) (hH : w.heap.size = H) (c : Nat) (news : List Value) (hx : a.eval x = .slice (some ⟨H, 0, none⟩) 1 c) (hl : news.length = size) (h1 : ∀ u ∈ news, u.oneCell' = true)
    (hn : n + 1 ≤ 4294967296) (hbb : bytes ≤ 16384)
    (h : ∀ v' w', QRow w' e size v' (n + 1) (xs ++ news) → App (w.alloc (.cells news.toArray e)) w' v v' → wpList P ops Q rest (a.put o.dst v') w') :
    wpList P ops Q (o :: rest) a (w.alloc (.cells news.toArray e)) := by
  subst hH
  have hb : (n + 1) * bytes ≤ 140737488355328 := Nat.le_trans (Nat.mul_le_mul hn hbb) (by decide)
  refine wpList_plain hgd fun K hK => ?_
  obtain ⟨v', w', hr, r1, r2, r3⟩ := run_qappend (P := P) (w := w.alloc (.cells news.toArray e)) t o.type i z bytes ht hi hz hsize hby hzs hsz (hown.keep (fun k hk => heap_alloc_old _ _ (hlt k hk))) ⟨w.heap.size, 0, none⟩ c news (by omega) (by
    intro j u hj
    have hc : (w.alloc (.cells news.toArray e)).cell? ⟨w.heap.size, j, none⟩ = some u := by
      simp only [World.cell?]
      rw [heap_alloc_new w _]
      simpa using hj
    unfold Addr.add
    split
    · rename_i h0; subst h0; exact hc
    · simpa using hc) h1 (by unfold maxLen; omega) hb
  unfold Oper.wp execOp
  simp only [ho, resolve, invoke, builtin, Sem.run_bind, Sem.run_pure, Result.andThen_ok, List.map_toArray, List.map_cons, List.map_nil, hs, hx, hr]
  exact hK _ _ (h v' w' r1 ⟨r2, r3⟩)
end Go.Proofs.YtmnloeolacmemaaGreat

/-
  A map from numbers to pointers to whole blocks: read as a function from numbers to blocks.
-/
namespace Go.Proofs.YtmnloeolacmemaaGreat
open Go Go.Maps Go.RowKit

/-- a pointer to a block's beginning reads as the block's number and one; nil as 0 -/
def ptrElem : Value → Option (DataW Unit × List MemPlace)
  | .pointer none => some (.lit (.int .i64 0), [])
  | .pointer (some ⟨c, 0, none⟩) => some (.lit (.int .i64 ((c : Int) + 1)), [])
  | _ => none
def ptrVal (o : Option Nat) : Value := .pointer (o.map fun c => ⟨c, 0, none⟩)
def ptrCode : Option Nat → Int
  | none => 0
  | some c => (c : Int) + 1
theorem ptrElem_val (o : Option Nat) : ptrElem (ptrVal o) = some (.lit (.int .i64 (ptrCode o)), []) := by cases o <;> rfl
theorem ptrElem_inv {v : Value} {o : Option Nat} {ps : List MemPlace} (h : ptrElem v = some (.lit (.int .i64 (ptrCode o)), ps)) : v = ptrVal o := by
  unfold ptrElem at h
  split at h
  · cases o with
    | none => rfl
    | some c => simp [ptrCode] at h; omega
  · rename_i c
    cases o with
    | none => simp [ptrCode] at h; omega
    | some d =>
      simp [ptrCode] at h
      have : c = d := by omega
      subst this; rfl
  · cases h

/-- the map in block b, of at most n entries, is f -/
def PMap (P : Program) (k : TypeId) (w : World) (b n : Nat) (f : Int → Option Nat) : Prop :=
  ∃ D : DataW Unit, w.ownsMap P k ptrElem b n D ∧ ∀ x, D.atKey (.int .i64 x) (.lit (.int .i64 0)) = .lit (.int .i64 (ptrCode (f x)))

variable {P : Program} {k t e : TypeId} {w : World} {b n : Nat} {f : Int → Option Nat}
theorem PMap.look (h : PMap P k w b n f) (hk : P.underlying k = some (.int .i64)) (ht : P.underlying t = some (.map k e)) (hz : (zeroValue e).run P w = .ok (.pointer none) w) (x : Int)
    (hx : keyOf P k (.int .i64 x) = some (.int .i64 x)) : (Instr.lookup t (.map (some b)) (.int .i64 x) false).run P w = .ok (ptrVal (f x)) w := by
  obtain ⟨D, hD, hf⟩ := h
  obtain ⟨v, ps, hrun, hv⟩ := hD.lookup (int_keyed hk) ht hz (zd := .lit (.int .i64 0)) (zp := []) rfl hx
  rw [hf x] at hv
  rw [hrun, ptrElem_inv hv]
theorem PMap.store (h : PMap P k w b n f) (hk : P.underlying k = some (.int .i64)) (ht : P.underlying t = some (.map k e)) (hn : n < maxLen) (x : Int)
    (hx : keyOf P k (.int .i64 x) = some (.int .i64 x)) (c : Nat) :
    ∃ w', (Instr.mapUpdate t (.map (some b)) (.int .i64 x) (ptrVal (some c))).run P w = .ok () w' ∧ PMap P k w' b (n + 1) (fun y => if y = x then some c else f y) ∧ w.mapTurned w' b := by
  obtain ⟨D, hD, hf⟩ := h
  obtain ⟨w', h1, h2, h3⟩ := hD.store (int_keyed hk) ht hn hx (ptrElem_val (some c))
  refine ⟨w', h1, ⟨_, h2, fun y => ?_⟩, h3⟩
  show _ = DataW.lit (Lit.int .i64 (ptrCode (if y = x then some c else f y)))
  by_cases e : y = x
  · subst e; rw [if_pos rfl]; exact atKey_put_same (k := .int .i64 y) hD.isMap trivial _ _
  · rw [if_neg e, atKey_put_other (fun h => e (by injection h))]; exact hf y
theorem PMap.drop (h : PMap P k w b n f) (hk : P.underlying k = some (.int .i64)) (ht : P.underlying t = some (.map k e)) (x : Int)
    (hx : keyOf P k (.int .i64 x) = some (.int .i64 x)) (ty : TypeId) :
    ∃ w', (Builtin.delete_ #[t, k] ty #[.map (some b), .int .i64 x]).run P w = .ok (.tuple #[]) w' ∧ PMap P k w' b n (fun y => if y = x then none else f y) ∧ w.mapTurned w' b := by
  obtain ⟨D, hD, hf⟩ := h
  obtain ⟨w', h1, h2, h3⟩ := hD.drop (int_keyed hk) ht hx ty
  refine ⟨w', h1, ⟨_, h2, fun y => ?_⟩, h3⟩
  show _ = DataW.lit (Lit.int .i64 (ptrCode (if y = x then none else f y)))
  by_cases e : y = x
  · subst e; rw [if_pos rfl]; exact atKey_del_same _
  · rw [if_neg e, atKey_del_other (fun h => e (by injection h))]; exact hf y
theorem PMap.made (w : World) (P : Program) (k : TypeId) : PMap P k (w.alloc (.map #[] 0)) w.heap.size 0 (fun _ => none) :=
  ⟨_, World.ownsMap_made w P k ptrElem, fun _ => rfl⟩
theorem PMap.kept {w' : World} {row : Option Nat} (h : PMap P k w b n f) (hg : w.grownBy w' row) (hne : some b ≠ row) : PMap P k w' b n f := by
  obtain ⟨D, hD, hf⟩ := h
  exact ⟨D, hD.kept hg hne, hf⟩
theorem PMap.lt (h : PMap P k w b n f) : b < w.heap.size := by obtain ⟨D, hD, _⟩ := h; exact hD.lt

/-! at the operation, for the walk -/
section
variable {P : Program} (w : World) {ops : Array Oper} {rest : List Oper} {o : Oper} {a : Act} {Q : Exit → Act → World → Prop}
theorem wpList_lookup_ptr (hg : o.guard = none) (m x : Operand) (t : TypeId) (hop : o.op = Op.lookup t m x false)
    (k e : TypeId) (hk : P.underlying k = some (.int .i64)) (ht : P.underlying t = some (.map k e)) (hz : (zeroValue e).run P w = .ok (.pointer none) w) (b n : Nat) (f : Int → Option Nat)
    (hm : a.eval m = .map (some b)) (h : PMap P k w b n f) (y : Int) (hx : a.eval x = .int .i64 y) (hkey : keyOf P k (.int .i64 y) = some (.int .i64 y))
    (hK : wpList P ops Q rest (a.put o.dst (ptrVal (f y))) w) : wpList P ops Q (o :: rest) a w := by
  refine wpList_plain hg fun K' hK' => ?_
  have hrun := h.look hk ht hz y hkey
  unfold Oper.wp
  simp [execOp, hop, hm, hx, hrun, Result.andThen]
  exact hK' _ _ hK
theorem wpList_mapUpdate_ptr (hg : o.guard = none) (m x v : Operand) (t : TypeId) (hop : o.op = Op.mapUpdate t m x v)
    (k e : TypeId) (hk : P.underlying k = some (.int .i64)) (ht : P.underlying t = some (.map k e)) (b n : Nat) (hn : n < maxLen) (f : Int → Option Nat)
    (hm : a.eval m = .map (some b)) (h : PMap P k w b n f) (y : Int) (hx : a.eval x = .int .i64 y) (c : Nat) (hv : a.eval v = ptrVal (some c)) (hkey : keyOf P k (.int .i64 y) = some (.int .i64 y))
    (hK : ∀ w', PMap P k w' b (n + 1) (fun z => if z = y then some c else f z) → w.mapTurned w' b → wpList P ops Q rest (a.put o.dst undef) w') : wpList P ops Q (o :: rest) a w := by
  refine wpList_plain hg fun K' hK' => ?_
  obtain ⟨w', hrun, r1, r2⟩ := h.store hk ht hn y hkey c
  unfold Oper.wp
  simp [execOp, hop, hm, hx, hv, hrun, Result.andThen]
  exact hK' _ _ (hK w' r1 r2)
theorem wpList_delete_ptr (hg : o.guard = none) (m x : Operand) (t k : TypeId) (hop : o.op = Op.call { callee := Callee.builtin Builtin.delete, args := #[m, x], argTypes := #[t, k] })
    (e : TypeId) (hk : P.underlying k = some (.int .i64)) (ht : P.underlying t = some (.map k e)) (b n : Nat) (f : Int → Option Nat)
    (hm : a.eval m = .map (some b)) (h : PMap P k w b n f) (y : Int) (hx : a.eval x = .int .i64 y) (hkey : keyOf P k (.int .i64 y) = some (.int .i64 y))
    (hK : ∀ w', PMap P k w' b n (fun z => if z = y then none else f z) → w.mapTurned w' b → wpList P ops Q rest (a.put o.dst (.tuple #[])) w') : wpList P ops Q (o :: rest) a w := by
  obtain ⟨D, hD, hf⟩ := h
  refine wpList_delete_own w hg m x t k hop e (int_keyed hk) ht ptrElem b n D hm hD (.int .i64 y) (.int .i64 y) hx hkey (fun w' h1 h2 => hK w' ⟨_, h1, fun z => ?_⟩ h2)
  show _ = DataW.lit (Lit.int .i64 (ptrCode (if z = y then none else f z)))
  by_cases e : z = y
  · subst e; rw [if_pos rfl]; exact atKey_del_same _
  · rw [if_neg e, atKey_del_other (fun h => e (by injection h))]; exact hf z
end

end Go.Proofs.YtmnloeolacmemaaGreat
