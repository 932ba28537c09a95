/-
  A check of events in memory, and what a call turns of it.
-/
import Derived.Test.YtgnpbckjdlhkjaaGreatDoorFmH
import Derived.Test.YtgnpbckjdlhkjaaGreatDoorFmI
namespace Go.Proofs.YtgnpbckjdlhkjaaGreatDoor
open Go.RowKit

/-- what a check keeps of an open element -/
def ckRow (x : Int × Int × List UInt8) : List Value := [.int .i64 0, .int .i64 x.1, .int .i64 x.2.1, .string (strL x.2.2), .slice none 0 0, .string ⟨#[]⟩, .int .i64 0, .int .i64 0]
def ckC (l : List (Int × Int × List UInt8)) : List Value := l.reverse.flatMap ckRow
theorem ckC_cons (x : Int × Int × List UInt8) (l : List (Int × Int × List UInt8)) : ckC (x :: l) = ckC l ++ ckRow x := by
  unfold ckC
  rw [List.reverse_cons, List.flatMap_append]
  simp
theorem ckC_length (l : List (Int × Int × List UInt8)) : (ckC l).length = l.length * 8 := by
  induction l with
  | nil => rfl
  | cons x l ih => rw [ckC_cons, List.length_append, ih, List.length_cons]; show _ + 8 = _; omega
theorem ckC_top (x : Int × Int × List UInt8) (l : List (Int × Int × List UInt8)) (j : Nat) (hj : j < 8) : (ckC (x :: l))[l.length * 8 + j]? = (ckRow x)[j]? := by
  rw [ckC_cons, ← ckC_length, List.getElem?_append_right (by omega), Nat.add_sub_cancel_left]
theorem ckRow_one (x : Int × Int × List UInt8) : ∀ u ∈ ckRow x, u.oneCell' = true := by
  intro u hu
  unfold ckRow at hu
  simp only [List.mem_cons, List.not_mem_nil, or_false] at hu
  rcases hu with rfl | rfl | rfl | rfl | rfl | rfl | rfl | rfl <;> rfl
/-- a check at block cb, its row of open elements is v, from block R on -/
structure Chk (w : World) (R cb : Nat) (v : Value) (s : BegS) : Prop where
  lt : cb < R
  le : R ≤ w.heap.size
  at' : w.heap[cb]? = some (.cells #[v, .int .i64 s.next, .bool s.text, .bool (decide (s.opn = [] ∧ s.cnt ≠ 0))] 51 (0, 0))
  own : w.ownsRow R 36 8 v s.opn.length (ckC s.opn)
  fst : s.cnt = 0 → s.next = 0
  sm : s.opn.length ≤ 1048576 ∧ 0 ≤ s.next ∧ s.next ≤ 1048576
/-- nothing has turned but block cb and the row v, which is v' now -/
structure Moved (cb : Nat) (v v' : Value) (w w' : World) : Prop where
  os : w'.os = w.os
  tape : w'.tape = w.tape
  output : w'.output = w.output
  size : w.heap.size ≤ w'.heap.size
  block : ∀ k, k < w.heap.size → k ≠ cb → v.ownBlock ≠ some k → w'.heap[k]? = w.heap[k]?
  own : v'.ownBlock = v.ownBlock ∨ ∀ k, v'.ownBlock = some k → w.heap.size ≤ k
theorem Moved.of {cb : Nat} {v : Value} {w w' : World} (h : Below w.heap.size w w') : Moved cb v v w w' := ⟨h.os, h.tape, h.output, h.size, fun k hk _ _ => h.block k hk, .inl rfl⟩
theorem Moved.trans {cb : Nat} {v1 v2 v3 : Value} {a b c : World} (h : Moved cb v1 v2 a b) (k : Moved cb v2 v3 b c) : Moved cb v1 v3 a c := by
  refine ⟨k.os.trans h.os, k.tape.trans h.tape, k.output.trans h.output, Nat.le_trans h.size k.size, fun i h1 h2 h3 => ?_, ?_⟩
  · refine (k.block i (Nat.lt_of_lt_of_le h1 h.size) h2 (fun e => ?_)).trans (h.block i h1 h2 h3)
    rcases h.own with ho | ho
    · rw [ho] at e; exact h3 e
    · have := ho i e; omega
  · rcases k.own with ho | ho
    · rw [ho]; exact h.own
    · exact .inr fun i hi => Nat.le_trans h.size (ho i hi)
theorem Moved.set {cb : Nat} {v v' : Value} {w w' : World} (h : Moved cb v v' w w') (i : Nat) (u : Value) : Moved cb v v' w (w'.setCell ⟨cb, i, none⟩ u) :=
  ⟨h.os, h.tape, h.output, by simp [World.setCell]; exact h.size, fun k h1 h2 h3 => (Below.heap_setCell _ _ _ _ h2).trans (h.block k h1 h2 h3), h.own⟩
theorem Moved.app {cb : Nat} {v v' : Value} {w w' : World} (h : App w w' v v') : Moved cb v v' w w' :=
  ⟨h.grown.os, h.grown.tape, h.grown.output, h.grown.size, fun k h1 _ h3 => h.keep h1 h3, by
    rcases h.own with e | ⟨g, e, hg⟩
    · exact .inl e
    · exact .inr fun k hk => by rw [e] at hk; cases hk; exact hg⟩
theorem Moved.drewN {cb : Nat} {v v' : Value} {w w' : World} (h : Moved cb v v' w w') (n : Nat) : Moved cb v v' w (w'.drewN n) := ⟨h.os, h.tape, h.output, h.size, h.block, h.own⟩
theorem Moved.below {cb B : Nat} {v v' : Value} {w w' : World} (h : Moved cb v v' w w') (h1 : B ≤ cb) (h2 : B ≤ w.heap.size) (h3 : ∀ k, v.ownBlock = some k → B ≤ k) : Below B w w' :=
  ⟨h.os, h.tape, h.output, h.size, fun k hk => h.block k (by omega) (by omega) (fun e => by have := h3 k e; omega)⟩
theorem Chk.keep {w w' : World} {R cb : Nat} {v : Value} {s : BegS} (h : Chk w R cb v s) (hs : w.heap.size ≤ w'.heap.size) (h1 : w'.heap[cb]? = w.heap[cb]?) (h2 : ∀ k, R ≤ k → k < w.heap.size → v.ownBlock = some k → w'.heap[k]? = w.heap[k]?) : Chk w' R cb v s :=
  ⟨h.lt, Nat.le_trans h.le hs, h1.trans h.at', own_block h.own (fun k hk => h2 k (h.own.lt k hk).1 (h.own.lt k hk).2 hk), h.fst, h.sm⟩
theorem Chk.below {w w' : World} {R cb : Nat} {v : Value} {s : BegS} (h : Chk w R cb v s) (hb : Below w.heap.size w w') : Chk w' R cb v s :=
  h.keep hb.size (hb.block cb (Nat.lt_of_lt_of_le h.lt h.le)) (fun k _ hk _ => hb.block k hk)
/-- append of one element in a region that draws -/
theorem step_app {P : Program} (w : World) {ops : Array Oper} {o : Oper} {a : Act} {K : Act → World → Prop} {Q : Exit → Act → World → Prop} {E : Prop} (hgd : o.guard = none) (s x : Operand) (t : TypeId)
    (ho : o.op = .call { callee := .builtin .append, args := #[s, x], argTypes := #[t, t] })
    (base : Nat) (e : TypeId) (i : TypeInfo) (z : Value) (size bytes : Nat) (ht : P.underlying t = some (.slice e)) (hi : P.info? e = some i) (hz : i.zero = some z)
    (hsize : i.size = size) (hby : i.bytes = bytes) (hzs : z.cells.size = size) (hsz : 0 < size)
    (v : Value) (n : Nat) (xs : List Value) (hs : a.eval s = v) (hown : w.ownsRow base e size v n xs)
    (H : Nat) (c : Nat) (news : List Value) (hx : a.eval x = .slice (some ⟨H, 0, none⟩) 1 c) (hl : news.length = size) (hc : w.heap[H]? = some (.cells news.toArray e (0, 0))) (h1 : ∀ u ∈ news, u.oneCell' = true)
    (hn : n + 1 ≤ 4294967296) (hbb : bytes ≤ 16384) (hbase : base ≤ w.heap.size)
    (h : ∀ v' w', w'.ownsRow base e size v' (n + 1) (xs ++ news) → App w w' v v' → K (a.put o.dst v') w') :
    if Region.wanted o (yielded ops a.tmps) = true then Oper.wp P o a w K Q else E := by
  have hw : Region.wanted o (yielded ops a.tmps) = true := by simp [Region.wanted, hgd]
  rw [if_pos hw]
  have hb : (n + 1) * bytes ≤ 140737488355328 := Nat.le_trans (Nat.mul_le_mul hn hbb) (by decide)
  obtain ⟨v', w', hr, h2, h3, _, h5⟩ := run_append_own_at (P := P) w base t o.type e i z size bytes ht hi hz hsize hby hzs hsz v n xs hown ⟨H, 0, none⟩ 1 c news (by omega) (fun j u hj => by rw [show (⟨H, 0, none⟩ : Addr).add j = ⟨H, j, none⟩ by rw [add_cell, Nat.zero_add], cell_heap hc]; simpa using hj) h1 (by unfold maxLen; omega) hb hbase
  unfold Oper.wp execOp
  simp only [ho, resolve, invoke, builtin, Sem.run_bind, Sem.run_pure, Result.andThen_ok, List.map_toArray, List.map_cons, List.map_nil, hs, hx, hr]
  refine h v' w' h2 ⟨h3, ?_⟩
  rcases h5 with h5 | h5
  · exact .inl h5
  · exact .inr ⟨_, h5, Nat.le_refl _⟩
end Go.Proofs.YtgnpbckjdlhkjaaGreatDoor

/-
  A tree in the making: what lies in memory behind each event.
-/
namespace Go.Proofs.YtgnpbckjdlhkjaaGreatDoor
open Go.RowKit

/-- a node's cells -/
def ndL (e : Ev) (x : Nd) (A : Option Addr) (m c : Nat) : List Value := evL e A m c ++ [.int .i64 x.par, .int .i64 x.last, .int .i64 x.pos, .int .i64 x.fin]
theorem ndL_length (e : Ev) (x : Nd) (A : Option Addr) (m c : Nat) : (ndL e x A m c).length = 12 := rfl
theorem ndL_one (e : Ev) (x : Nd) (A : Option Addr) (m c : Nat) : ∀ u ∈ ndL e x A m c, u.oneCell' = true := by
  intro u hu
  unfold ndL evL evC at hu
  simp only [List.cons_append, List.nil_append, List.mem_cons, List.not_mem_nil, or_false] at hu
  rcases hu with rfl | rfl | rfl | rfl | rfl | rfl | rfl | rfl | rfl | rfl | rfl | rfl <;> rfl
/-- the nodes' cells; the events' attributes lie as they lie in world wc, behind block cb -/
def NdRow (wc : World) (cb : Nat) (evs : List Ev) (nds : List Nd) (ncs : List Value) : Prop :=
  ∀ i x, nds[i]? = some x → ∃ (e : Ev) (A : Option Addr) (m c : Nat), evs[x.pos]? = some e ∧ m ≤ c ∧ AttrsAt wc A m e.ats ∧ (∀ ad, A = some ad → cb < ad.block) ∧ ∀ j, j < 12 → ncs[i * 12 + j]? = (ndL e x A m c)[j]?
theorem NdRow.push {wc : World} {cb : Nat} {evs : List Ev} {nds : List Nd} {ncs : List Value} (h : NdRow wc cb evs nds ncs) (hl : ncs.length = nds.length * 12) (x : Nd) (e : Ev) (A : Option Addr) (m c : Nat)
    (h1 : evs[x.pos]? = some e) (h2 : m ≤ c) (h3 : AttrsAt wc A m e.ats) (h4 : ∀ ad, A = some ad → cb < ad.block) : NdRow wc cb evs (nds ++ [x]) (ncs ++ ndL e x A m c) := by
  intro i y hy
  rcases snoc_get hy with ⟨hi, hy⟩ | ⟨hi, rfl⟩
  · obtain ⟨e', A', m', c', g1, g2, g3, g4, g5⟩ := h i y hy
    exact ⟨e', A', m', c', g1, g2, g3, g4, fun j hj => by rw [List.getElem?_append_left (by omega)]; exact g5 j hj⟩
  · exact ⟨e, A, m, c, h1, h2, h3, h4, fun j hj => by rw [List.getElem?_append_right (by omega), show i * 12 + j - ncs.length = j by omega]⟩
theorem NdRow.close {wc : World} {cb : Nat} {evs : List Ev} {nds : List Nd} {ncs : List Value} (h : NdRow wc cb evs nds ncs) (hl : ncs.length = nds.length * 12) (k : Nat) (hk : k < nds.length) (la : Int) (fi : Nat) :
    NdRow wc cb evs (nds.modify k (fun x => ⟨x.pos, x.par, la, fi⟩)) ((ncs.set (k * 12 + 9) (.int .i64 la)).set (k * 12 + 11) (.int .i64 fi)) := by
  intro i y hy
  rw [List.getElem?_modify] at hy
  cases hx : nds[i]? with
  | none => rw [hx] at hy; simp at hy
  | some x =>
    rw [hx] at hy
    obtain ⟨e', A', m', c', g1, g2, g3, g4, g5⟩ := h i x hx
    by_cases hik : k = i
    · subst hik
      simp at hy
      subst hy
      refine ⟨e', A', m', c', g1, g2, g3, g4, fun j hj => ?_⟩
      rw [List.getElem?_set, List.getElem?_set]
      have h11 := g5 j hj
      simp only [List.length_set]
      by_cases j11 : j = 11
      · subst j11
        rw [if_pos rfl, if_pos (by omega)]; rfl
      · rw [if_neg (by omega)]
        by_cases j9 : j = 9
        · subst j9
          rw [if_pos rfl, if_pos (by omega)]; rfl
        · rw [if_neg (by omega), h11]
          match j, hj, j11, j9 with
          | 0, _, _, _ => rfl
          | 1, _, _, _ => rfl
          | 2, _, _, _ => rfl
          | 3, _, _, _ => rfl
          | 4, _, _, _ => rfl
          | 5, _, _, _ => rfl
          | 6, _, _, _ => rfl
          | 7, _, _, _ => rfl
          | 8, _, _, _ => rfl
          | 10, _, _, _ => rfl
          | j + 12, h, _, _ => exact absurd h (by omega)
    · simp [hik] at hy
      subst hy
      refine ⟨e', A', m', c', g1, g2, g3, g4, fun j hj => ?_⟩
      rw [List.getElem?_set, List.getElem?_set, if_neg (by omega), if_neg (by omega)]
      exact g5 j hj
/-- the numbers of the open elements, the root above first -/
def opC (l : List (Int × Int × List UInt8)) : List Value := .int .i64 (-1) :: (l.reverse.map fun x => .int .i64 x.1)
theorem opC_cons (x : Int × Int × List UInt8) (l : List (Int × Int × List UInt8)) : opC (x :: l) = opC l ++ [.int .i64 x.1] := by simp [opC]
theorem opC_length (l : List (Int × Int × List UInt8)) : (opC l).length = l.length + 1 := by simp [opC]
theorem opC_top (l : List (Int × Int × List UInt8)) : (opC l)[l.length]? = some (.int .i64 ((l.head?.map (·.1)).getD (-1))) := by
  cases l with
  | nil => rfl
  | cons x r => rw [opC_cons, List.length_cons, ← opC_length]; simp
/-- two rows of different kinds are not one -/
theorem own_ne {w : World} {B B' n n' size size' : Nat} {e e' : TypeId} {v v' : Value} {xs xs' : List Value} (h : w.ownsRow B e size v n xs) (h' : w.ownsRow B' e' size' v' n' xs') (he : e ≠ e') : ∀ k, v.ownBlock = some k → v'.ownBlock ≠ some k := by
  intro k hk hk'
  rcases h.2 with ⟨rfl, _⟩ | ⟨g, cap, cur, rfl, _, hg, _⟩
  · cases hk
  · cases hk
    rcases h'.2 with ⟨rfl, _⟩ | ⟨g', cap', cur', rfl, _, hg', _⟩
    · cases hk'
    · cases hk'
      rw [hg] at hg'
      cases hg'
      exact he rfl
theorem own_not {w : World} {B n size k : Nat} {e e' : TypeId} {v : Value} {xs : List Value} {c : Array Value} {fz : Nat × Nat} (h : w.ownsRow B e size v n xs) (hk : w.heap[k]? = some (.cells c e' fz)) (he : e ≠ e') : v.ownBlock ≠ some k := by
  intro e
  rcases h.2 with ⟨rfl, _⟩ | ⟨g, cap, cur, rfl, _, hg, _⟩
  · cases e
  · cases e
    rw [hk] at hg
    cases hg
    exact he rfl
theorem beg_le : ∀ (l : List Ev) (s t : BegS), begAll s l = some t → t.opn.length ≤ s.opn.length + l.length ∧ t.next ≤ s.next + l.length ∧ s.next ≤ t.next ∧ t.cnt = s.cnt + l.length := by
  intro l
  induction l with
  | nil => intro s t h; simp only [begAll, Option.some.injEq] at h; subst h; simp
  | cons e l ih =>
    intro s t h
    unfold begAll at h
    split at h
    · have := ih _ _ h
      have h1 : (begNext s e).opn.length ≤ s.opn.length + 1 := by
        unfold begNext
        simp only
        split
        · simp
        · split
          · simp; omega
          · omega
      have h2 : (begNext s e).next ≤ s.next + 1 ∧ s.next ≤ (begNext s e).next := by
        unfold begNext
        simp only
        split <;> omega
      have h3 : (begNext s e).cnt = s.cnt + 1 := rfl
      simp only [List.length_cons]
      omega
    · cases h
/-- a tree in the making: cb the check (of state sC), s the state whose open elements the walk keeps; wc the world in which the events had been copied, to block ge -/
structure BInv (wc : World) (cb ge n : Nat) (evs : List Ev) (sC s : BegS) (nds : List Nd) (vC vN vO : Value) (W : World) : Prop where
  os : W.os = wc.os
  tape : W.tape = wc.tape
  output : W.output = wc.output
  size : wc.heap.size + 2 ≤ W.heap.size
  block : ∀ j, j < wc.heap.size → j ≠ cb → W.heap[j]? = wc.heap[j]?
  chk : Chk W (wc.heap.size + 2) cb vC sC
  tree : W.heap[wc.heap.size]? = some (.cells #[.slice (some ⟨ge, 0, none⟩) n n, vN] 55 (0, 0))
  nds' : ∃ ncs, W.ownsRow (wc.heap.size + 2) 59 12 vN nds.length ncs ∧ NdRow wc cb evs nds ncs
  opn : W.ownsRow (wc.heap.size + 1) 3 1 vO (s.opn.length + 1) (opC s.opn)
variable {wc W W' : World} {cb ge n : Nat} {evs : List Ev} {sC sC' s s' : BegS} {nds nds' : List Nd} {vC vC' vN vN' vO vO' : Value}
theorem BInv.ne (h : BInv wc cb ge n evs sC s nds vC vN vO W) (hcb : cb < wc.heap.size) :
    (∀ k, vC.ownBlock = some k → wc.heap.size + 2 ≤ k ∧ k < W.heap.size) ∧ (∀ k, vN.ownBlock = some k → wc.heap.size + 2 ≤ k ∧ k < W.heap.size) ∧ (∀ k, vO.ownBlock = some k → wc.heap.size + 1 ≤ k ∧ k < W.heap.size) ∧
    (∀ k, vC.ownBlock = some k → vN.ownBlock ≠ some k ∧ vO.ownBlock ≠ some k) ∧ (∀ k, vN.ownBlock = some k → vO.ownBlock ≠ some k) ∧ cb < W.heap.size ∧ wc.heap.size < W.heap.size := by
  obtain ⟨ncs, hn, _⟩ := h.nds'
  have hs := h.size
  exact ⟨fun k hk => h.chk.own.lt k hk, fun k hk => hn.lt k hk, fun k hk => h.opn.lt k hk, fun k hk => ⟨own_ne h.chk.own hn (by decide) k hk, own_ne h.chk.own h.opn (by decide) k hk⟩, fun k hk => own_ne hn h.opn (by decide) k hk, by omega, by omega⟩
theorem BInv.below (h : BInv wc cb ge n evs sC s nds vC vN vO W) (hcb : cb < wc.heap.size) (hb : Below W.heap.size W W') : BInv wc cb ge n evs sC s nds vC vN vO W' := by
  obtain ⟨a1, a2, a3, a4, a5, a6, a7⟩ := h.ne hcb
  obtain ⟨ncs, hn, hr⟩ := h.nds'
  exact ⟨hb.os.trans h.os, hb.tape.trans h.tape, hb.output.trans h.output, Nat.le_trans h.size hb.size, fun j h1 h2 => (hb.block j (by omega)).trans (h.block j h1 h2), h.chk.below hb, (hb.block _ a7).trans h.tree,
    ⟨ncs, own_block hn (fun k hk => hb.block k (a2 k hk).2), hr⟩, own_block h.opn (fun k hk => hb.block k (a3 k hk).2)⟩
theorem BInv.take (h : BInv wc cb ge n evs sC s nds vC vN vO W) (hcb : cb < wc.heap.size) (hm : Moved cb vC vC' W W') (hc : Chk W' (wc.heap.size + 2) cb vC' sC') : BInv wc cb ge n evs sC' s nds vC' vN vO W' := by
  obtain ⟨a1, a2, a3, a4, a5, a6, a7⟩ := h.ne hcb
  obtain ⟨ncs, hn, hr⟩ := h.nds'
  refine ⟨hm.os.trans h.os, hm.tape.trans h.tape, hm.output.trans h.output, Nat.le_trans h.size hm.size, fun j h1 h2 => (hm.block j (by omega) h2 (fun e => by have := a1 j e; omega)).trans (h.block j h1 h2), hc, (hm.block _ a7 (by omega) (fun e => by have := a1 _ e; omega)).trans h.tree,
    ⟨ncs, own_block hn (fun k hk => hm.block k (a2 k hk).2 (fun e => by have := a2 k hk; omega) (fun e => (a4 k e).1 hk)), hr⟩, own_block h.opn (fun k hk => hm.block k (a3 k hk).2 (fun e => by have := a3 k hk; omega) (fun e => (a4 k e).2 hk))⟩
theorem BInv.node (h : BInv wc cb ge n evs sC s nds vC vN vO W) (hcb : cb < wc.heap.size) (hm : Moved wc.heap.size vN vN' W W') (ht : W'.heap[wc.heap.size]? = some (.cells #[.slice (some ⟨ge, 0, none⟩) n n, vN'] 55 (0, 0)))
    (hn' : ∃ ncs, W'.ownsRow (wc.heap.size + 2) 59 12 vN' nds'.length ncs ∧ NdRow wc cb evs nds' ncs) : BInv wc cb ge n evs sC s nds' vC vN' vO W' := by
  obtain ⟨a1, a2, a3, a4, a5, a6, a7⟩ := h.ne hcb
  refine ⟨hm.os.trans h.os, hm.tape.trans h.tape, hm.output.trans h.output, Nat.le_trans h.size hm.size, fun j h1 h2 => (hm.block j (by omega) (by omega) (fun e => by have := a2 j e; omega)).trans (h.block j h1 h2), ?_, ht, hn',
    own_block h.opn (fun k hk => hm.block k (a3 k hk).2 (fun e => by have := a3 k hk; omega) (fun e => a5 k e hk))⟩
  exact h.chk.keep hm.size (hm.block cb a6 (by omega) (fun e => by have := a2 _ e; omega)) (fun k h1 h2 hk => hm.block k h2 (by omega) (fun e => (a4 k hk).1 e))
theorem BInv.open' (h : BInv wc cb ge n evs sC s nds vC vN vO W) (hcb : cb < wc.heap.size) (hm : Moved W.heap.size vO vO' W W') (ho : W'.ownsRow (wc.heap.size + 1) 3 1 vO' (s'.opn.length + 1) (opC s'.opn)) : BInv wc cb ge n evs sC s' nds vC vN vO' W' := by
  obtain ⟨a1, a2, a3, a4, a5, a6, a7⟩ := h.ne hcb
  obtain ⟨ncs, hn, hr⟩ := h.nds'
  refine ⟨hm.os.trans h.os, hm.tape.trans h.tape, hm.output.trans h.output, Nat.le_trans h.size hm.size, fun j h1 h2 => (hm.block j (by omega) (by omega) (fun e => by have := a3 j e; omega)).trans (h.block j h1 h2), ?_, (hm.block _ a7 (by omega) (fun e => by have := a3 _ e; omega)).trans h.tree,
    ⟨ncs, own_block hn (fun k hk => hm.block k (a2 k hk).2 (by have := a2 k hk; omega) (fun e => a5 k hk e)), hr⟩, ho⟩
  exact h.chk.keep hm.size (hm.block cb a6 (by omega) (fun e => by have := a3 _ e; omega)) (fun k h1 h2 hk => hm.block k h2 (by omega) (fun e => (a4 k hk).2 e))
theorem Moved.setOwn {x g : Nat} {v v' : Value} {w w' : World} (h : Moved x v v' w w') (hv : v.ownBlock = some g) (i : Nat) (u : Value) : Moved x v v' w (w'.setCell ⟨g, i, none⟩ u) :=
  ⟨h.os, h.tape, h.output, by simp [World.setCell]; exact h.size, fun k h1 h2 h3 => (Below.heap_setCell _ _ _ _ (fun e => h3 (by rw [hv]; exact congrArg some e.symm))).trans (h.block k h1 h2 h3), h.own⟩
/-- copied events in a world that keeps all blocks but one -/
theorem EvRow.at8 {w W : World} {cb ge B n : Nat} {evs : List Ev} {cs : List Value} (ho : w.ownsRow B 36 8 (.slice (some ⟨ge, 0, none⟩) n n) n cs) (h : EvRow w (ge + 1) n evs cs) (hn : n = evs.length) (i : Nat) (hi : i < n) (hcb : cb < ge) (hW : ∀ j, j < w.heap.size → j ≠ cb → W.heap[j]? = w.heap[j]?) :
    ∃ (e : Ev) (A : Option Addr) (m c : Nat), evs[i]? = some e ∧ m ≤ c ∧ AttrsAt w A m e.ats ∧ (∀ ad, A = some ad → cb < ad.block) ∧
      W.cell? ⟨ge, i * 8, none⟩ = some (.int .i64 e.kind) ∧ W.cell? ⟨ge, i * 8 + 1, none⟩ = some (.int .i64 e.num) ∧ W.cell? ⟨ge, i * 8 + 2, none⟩ = some (.int .i64 e.dep) ∧ W.cell? ⟨ge, i * 8 + 3, none⟩ = some (.string (strL e.name)) ∧
      W.cell? ⟨ge, i * 8 + 4, none⟩ = some (.slice A m c) ∧ W.cell? ⟨ge, i * 8 + 5, none⟩ = some (.string (strL e.text)) ∧ W.cell? ⟨ge, i * 8 + 6, none⟩ = some (.int .i64 e.fr) ∧ W.cell? ⟨ge, i * 8 + 7, none⟩ = some (.int .i64 e.tt) := by
  obtain ⟨A, m, c, hmc, hA, hfr, hc⟩ := h i (by omega) hi
  have hg := (ho.lt ge rfl).2
  have hk := hW ge hg (by omega)
  have hcell : ∀ j, j < 8 → W.cell? ⟨ge, i * 8 + j, none⟩ = (evL evs[i] A m c)[j]? := fun j hj => by
    have e1 : W.cell? ⟨ge, i * 8 + j, none⟩ = w.cell? ⟨ge, i * 8 + j, none⟩ := by simp only [World.cell?, hk]
    rw [e1, ho.cellAt _ (by omega), hc j hj]
  exact ⟨evs[i], A, m, c, List.getElem?_eq_getElem (by omega), hmc, hA, fun ad h => by have := hfr ad h; omega, hcell 0 (by decide), hcell 1 (by decide), hcell 2 (by decide), hcell 3 (by decide), hcell 4 (by decide), hcell 5 (by decide), hcell 6 (by decide), hcell 7 (by decide)⟩
end Go.Proofs.YtgnpbckjdlhkjaaGreatDoor
