/-
  tree.copied: events as new memory.
-/
import Derived.Test.YtklpihaelaagpaaDoorLgS
import Derived.Test.YtklpihaelaagpaaDoorLgG
namespace Go.Proofs.YtklpihaelaagpaaDoor
open Go.RowKit

def setC : World → Nat → Nat → List Value → World
  | w, _, _, [] => w
  | w, g, p, v :: l => setC (w.setCell ⟨g, p, none⟩ v) g (p + 1) l
def setL : List Value → Nat → List Value → List Value
  | cs, _, [] => cs
  | cs, p, v :: l => setL (cs.set p v) (p + 1) l
theorem setL_low : ∀ (l cs : List Value) (p q : Nat), q < p → (setL cs p l)[q]? = cs[q]?
  | [], _, _, _, _ => rfl
  | v :: l, cs, p, q, h => by
    unfold setL
    rw [setL_low l _ _ _ (by omega), List.getElem?_set, if_neg (by omega)]
theorem setL_high : ∀ (l cs : List Value) (p q : Nat), p + l.length ≤ q → (setL cs p l)[q]? = cs[q]?
  | [], _, _, _, _ => rfl
  | v :: l, cs, p, q, h => by
    rw [List.length_cons] at h
    unfold setL
    rw [setL_high l _ _ _ (by omega), List.getElem?_set, if_neg (by omega)]
theorem setL_at : ∀ (l cs : List Value) (p j : Nat), p + l.length ≤ cs.length → j < l.length → (setL cs p l)[p + j]? = l[j]?
  | [], _, _, j, _, h => by simp at h
  | v :: l, cs, p, 0, h, _ => by
    rw [List.length_cons] at h
    unfold setL
    rw [setL_low l _ _ _ (by omega), List.getElem?_set]
    simp; omega
  | v :: l, cs, p, j + 1, h, hj => by
    rw [List.length_cons] at h hj
    unfold setL
    rw [show p + (j + 1) = p + 1 + j by omega, setL_at l _ _ _ (by rw [List.length_set]; omega) (by omega)]
    rfl
theorem setL_length : ∀ (l cs : List Value) (p : Nat), (setL cs p l).length = cs.length
  | [], _, _ => rfl
  | v :: l, cs, p => by unfold setL; rw [setL_length l]; simp
theorem setC_own {base g n cap : Nat} {e : TypeId} {size : Nat} : ∀ (l : List Value) (w : World) (cs : List Value) (p : Nat), w.ownsRow base e size (.slice (some ⟨g, 0, none⟩) n cap) n cs →
    (setC w g p l).ownsRow base e size (.slice (some ⟨g, 0, none⟩) n cap) n (setL cs p l)
  | [], _, _, _, h => h
  | v :: l, _, _, p, h => setC_own l _ _ _ (h.stored p v).1
theorem setC_size : ∀ (l : List Value) (w : World) (g p : Nat), (setC w g p l).heap.size = w.heap.size
  | [], _, _, _ => rfl
  | v :: l, w, g, p => by unfold setC; rw [setC_size l]; simp [World.setCell]
theorem setC_far : ∀ (l : List Value) (w : World) (g p k : Nat), k ≠ g → (setC w g p l).heap[k]? = w.heap[k]?
  | [], _, _, _, _, _ => rfl
  | v :: l, w, g, p, k, h => by unfold setC; rw [setC_far l _ _ _ _ h, Below.heap_setCell _ _ _ _ h]
theorem setC_below {B : Nat} {a : World} : ∀ (l : List Value) (w : World) (g p : Nat), B ≤ g → Below B a w → Below B a (setC w g p l)
  | [], _, _, _, _, hb => hb
  | v :: l, _, g, p, h, hb => setC_below l _ g (p + 1) h (hb.setCell (p := ⟨g, p, none⟩) h v)
theorem EvsAt.at8 {w : World} {a : Option Addr} {n : Nat} {evs : List Ev} (h : EvsAt w a n evs) (i : Nat) (hi : i < evs.length) :
    ∃ b o A m c, a = some ⟨b, o, none⟩ ∧ b < w.heap.size ∧ m ≤ c ∧ AttrsAt w A m evs[i].ats ∧ ∀ W, Below w.heap.size w W →
      W.cell? ⟨b, o + i * 8, none⟩ = some (.int .i64 evs[i].kind) ∧ W.cell? ⟨b, o + i * 8 + 1, none⟩ = some (.int .i64 evs[i].num) ∧ W.cell? ⟨b, o + i * 8 + 2, none⟩ = some (.int .i64 evs[i].dep) ∧ W.cell? ⟨b, o + i * 8 + 3, none⟩ = some (.string (strL evs[i].name)) ∧
      W.cell? ⟨b, o + i * 8 + 4, none⟩ = some (.slice A m c) ∧ W.cell? ⟨b, o + i * 8 + 5, none⟩ = some (.string (strL evs[i].text)) ∧ W.cell? ⟨b, o + i * 8 + 6, none⟩ = some (.int .i64 evs[i].fr) ∧ W.cell? ⟨b, o + i * 8 + 7, none⟩ = some (.int .i64 evs[i].tt) := by
  obtain ⟨b, o, A, m, c, e, hb, hmc, hA, hc⟩ := h.2 i hi
  refine ⟨b, o, A, m, c, e, hb, hmc, hA, fun W hW => ?_⟩
  have k := fun j (hj : j < 8) => (hW.cell (p := ⟨b, o + i * 8 + j, none⟩) hb).trans (hc j hj)
  exact ⟨k 0 (by decide), k 1 (by decide), k 2 (by decide), k 3 (by decide), k 4 (by decide), k 5 (by decide), k 6 (by decide), k 7 (by decide)⟩
def EvRow (w : World) (B k : Nat) (evs : List Ev) (cs : List Value) : Prop :=
  ∀ i, (h : i < evs.length) → i < k → ∃ A m c, m ≤ c ∧ AttrsAt w A m evs[i].ats ∧ (∀ ad, A = some ad → B ≤ ad.block) ∧ ∀ j, j < 8 → cs[i * 8 + j]? = (evL evs[i] A m c)[j]?
theorem own_cell {w : World} {base g n cap size : Nat} {e : TypeId} {xs : List Value} (h : w.ownsRow base e size (.slice (some ⟨g, 0, none⟩) n cap) n xs) (j : Nat) (hj : j < n * size) : ∃ x, w.cell? ⟨g, j, none⟩ = some x := by
  have hl := h.1
  exact ⟨xs[j], by rw [h.cellAt j hj, List.getElem?_eq_getElem (by omega)]⟩
theorem EvRow.step {w w' : World} {B k : Nat} {evs : List Ev} {cs : List Value} (h : EvRow w B k evs cs) (hlen : cs.length = evs.length * 8) (hk : k < evs.length) (hs : w.heap.size ≤ w'.heap.size)
    (hb : ∀ b, B ≤ b → b < w.heap.size → w'.heap[b]? = w.heap[b]?) (A : Option Addr) (m c : Nat) (hmc : m ≤ c) (hA : AttrsAt w' A m evs[k].ats) (hfr : ∀ ad, A = some ad → B ≤ ad.block) :
    EvRow w' B (k + 1) evs (setL cs (k * 8) (evL evs[k] A m c)) := by
  have hel : ∀ (e : Ev) (A : Option Addr) (m c : Nat), (evL e A m c).length = 8 := fun _ _ _ _ => rfl
  intro i hi hik
  by_cases h0 : i = k
  · subst h0
    exact ⟨A, m, c, hmc, hA, hfr, fun j hj => setL_at _ _ _ _ (by rw [hel]; omega) (by rw [hel]; exact hj)⟩
  · obtain ⟨A', m', c', h1, h2, h3, h4⟩ := h i hi (by omega)
    refine ⟨A', m', c', h1, h2.keep hs fun b o e hlt => hb b (h3 _ e) hlt, h3, fun j hj => ?_⟩
    rw [setL_low _ _ _ _ (by omega), h4 j hj]
theorem infoEv : (Tryd.prog.info? 40).map (fun i => (i.zero, i.size, i.bytes)) = some (some (.agg #[.int .i64 0, .int .i64 0, .int .i64 0, .string ⟨#[]⟩, .slice none 0 0, .string ⟨#[]⟩, .int .i64 0, .int .i64 0]), 8, 96) := by kernel_rfl
end Go.Proofs.YtklpihaelaagpaaDoor

namespace Go.Proofs.YtklpihaelaagpaaDoor
open Go.RowKit

def ckRow (x : Int × Int × List UInt8) : List Value := [.int .i64 0, .int .i64 x.1, .int .i64 x.2.1, .string (strL x.2.2), .slice none 0 0, .string ⟨#[]⟩, .int .i64 0, .int .i64 0]
def ckC (l : List (Int × Int × List UInt8)) : List Value := l.reverse.flatMap ckRow
theorem ckC_cons (x : Int × Int × List UInt8) (l : List (Int × Int × List UInt8)) : ckC (x :: l) = ckC l ++ ckRow x := by
  unfold ckC
  rw [List.reverse_cons, List.flatMap_append]
  simp
theorem ckC_length (l : List (Int × Int × List UInt8)) : (ckC l).length = l.length * 8 := by
  induction l with
  | nil => rfl
  | cons x l ih => rw [ckC_cons, List.length_append, ih, List.length_cons]; show _ + 8 = _; omega
theorem ckC_top (x : Int × Int × List UInt8) (l : List (Int × Int × List UInt8)) (j : Nat) (hj : j < 8) : (ckC (x :: l))[l.length * 8 + j]? = (ckRow x)[j]? := by
  rw [ckC_cons, ← ckC_length, List.getElem?_append_right (by omega), Nat.add_sub_cancel_left]
theorem ckRow_one (x : Int × Int × List UInt8) : ∀ u ∈ ckRow x, u.oneCell' = true := by
  intro u hu
  unfold ckRow at hu
  simp only [List.mem_cons, List.not_mem_nil, or_false] at hu
  rcases hu with rfl | rfl | rfl | rfl | rfl | rfl | rfl | rfl <;> rfl
structure Chk (w : World) (R cb : Nat) (v : Value) (s : BegS) : Prop where
  lt : cb < R
  le : R ≤ w.heap.size
  at' : w.heap[cb]? = some (.cells #[v, .int .i64 s.next, .bool s.text, .bool (decide (s.opn = [] ∧ s.cnt ≠ 0))] 77 (0, 0))
  own : w.ownsRow R 40 8 v s.opn.length (ckC s.opn)
  fst : s.cnt = 0 → s.next = 0
  sm : s.opn.length ≤ 1048576 ∧ 0 ≤ s.next ∧ s.next ≤ 1048576
structure Moved (cb : Nat) (v v' : Value) (w w' : World) : Prop where
  os : w'.os = w.os
  tape : w'.tape = w.tape
  output : w'.output = w.output
  size : w.heap.size ≤ w'.heap.size
  block : ∀ k, k < w.heap.size → k ≠ cb → v.ownBlock ≠ some k → w'.heap[k]? = w.heap[k]?
  own : v'.ownBlock = v.ownBlock ∨ ∀ k, v'.ownBlock = some k → w.heap.size ≤ k
theorem Moved.of {cb : Nat} {v : Value} {w w' : World} (h : Below w.heap.size w w') : Moved cb v v w w' := ⟨h.os, h.tape, h.output, h.size, fun k hk _ _ => h.block k hk, .inl rfl⟩
theorem Moved.trans {cb : Nat} {v1 v2 v3 : Value} {a b c : World} (h : Moved cb v1 v2 a b) (k : Moved cb v2 v3 b c) : Moved cb v1 v3 a c := by
  refine ⟨k.os.trans h.os, k.tape.trans h.tape, k.output.trans h.output, Nat.le_trans h.size k.size, fun i h1 h2 h3 => ?_, ?_⟩
  · refine (k.block i (Nat.lt_of_lt_of_le h1 h.size) h2 (fun e => ?_)).trans (h.block i h1 h2 h3)
    rcases h.own with ho | ho
    · rw [ho] at e; exact h3 e
    · have := ho i e; omega
  · rcases k.own with ho | ho
    · rw [ho]; exact h.own
    · exact .inr fun i hi => Nat.le_trans h.size (ho i hi)
theorem Moved.set {cb : Nat} {v v' : Value} {w w' : World} (h : Moved cb v v' w w') (i : Nat) (u : Value) : Moved cb v v' w (w'.setCell ⟨cb, i, none⟩ u) :=
  ⟨h.os, h.tape, h.output, by simp [World.setCell]; exact h.size, fun k h1 h2 h3 => (Below.heap_setCell _ _ _ _ h2).trans (h.block k h1 h2 h3), h.own⟩
theorem Moved.app {cb : Nat} {v v' : Value} {w w' : World} (h : App w w' v v') : Moved cb v v' w w' :=
  ⟨h.grown.os, h.grown.tape, h.grown.output, h.grown.size, fun k h1 _ h3 => h.keep h1 h3, by
    rcases h.own with e | ⟨g, e, hg⟩
    · exact .inl e
    · exact .inr fun k hk => by rw [e] at hk; cases hk; exact hg⟩
theorem Moved.drewN {cb : Nat} {v v' : Value} {w w' : World} (h : Moved cb v v' w w') (n : Nat) : Moved cb v v' w (w'.drewN n) := ⟨h.os, h.tape, h.output, h.size, h.block, h.own⟩
theorem Moved.below {cb B : Nat} {v v' : Value} {w w' : World} (h : Moved cb v v' w w') (h1 : B ≤ cb) (h2 : B ≤ w.heap.size) (h3 : ∀ k, v.ownBlock = some k → B ≤ k) : Below B w w' :=
  ⟨h.os, h.tape, h.output, h.size, fun k hk => h.block k (by omega) (by omega) (fun e => by have := h3 k e; omega)⟩
theorem Chk.keep {w w' : World} {R cb : Nat} {v : Value} {s : BegS} (h : Chk w R cb v s) (hs : w.heap.size ≤ w'.heap.size) (h1 : w'.heap[cb]? = w.heap[cb]?) (h2 : ∀ k, R ≤ k → k < w.heap.size → v.ownBlock = some k → w'.heap[k]? = w.heap[k]?) : Chk w' R cb v s :=
  ⟨h.lt, Nat.le_trans h.le hs, h1.trans h.at', own_block h.own (fun k hk => h2 k (h.own.lt k hk).1 (h.own.lt k hk).2 hk), h.fst, h.sm⟩
theorem Chk.below {w w' : World} {R cb : Nat} {v : Value} {s : BegS} (h : Chk w R cb v s) (hb : Below w.heap.size w w') : Chk w' R cb v s :=
  h.keep hb.size (hb.block cb (Nat.lt_of_lt_of_le h.lt h.le)) (fun k _ hk _ => hb.block k hk)
theorem step_app {P : Program} (w : World) {ops : Array Oper} {o : Oper} {a : Act} {K : Act → World → Prop} {Q : Exit → Act → World → Prop} {E : Prop} (hgd : o.guard = none) (s x : Operand) (t : TypeId)
    (ho : o.op = .call { callee := .builtin .append, args := #[s, x], argTypes := #[t, t] })
    (base : Nat) (e : TypeId) (i : TypeInfo) (z : Value) (size bytes : Nat) (ht : P.underlying t = some (.slice e)) (hi : P.info? e = some i) (hz : i.zero = some z)
    (hsize : i.size = size) (hby : i.bytes = bytes) (hzs : z.cells.size = size) (hsz : 0 < size)
    (v : Value) (n : Nat) (xs : List Value) (hs : a.eval s = v) (hown : w.ownsRow base e size v n xs)
    (H : Nat) (c : Nat) (news : List Value) (hx : a.eval x = .slice (some ⟨H, 0, none⟩) 1 c) (hl : news.length = size) (hc : w.heap[H]? = some (.cells news.toArray e (0, 0))) (h1 : ∀ u ∈ news, u.oneCell' = true)
    (hn : n + 1 ≤ 4294967296) (hbb : bytes ≤ 16384) (hbase : base ≤ w.heap.size)
    (h : ∀ v' w', w'.ownsRow base e size v' (n + 1) (xs ++ news) → App w w' v v' → K (a.put o.dst v') w') :
    if Region.wanted o (yielded ops a.tmps) = true then Oper.wp P o a w K Q else E := by
  have hw : Region.wanted o (yielded ops a.tmps) = true := by simp [Region.wanted, hgd]
  rw [if_pos hw]
  have hb : (n + 1) * bytes ≤ 140737488355328 := Nat.le_trans (Nat.mul_le_mul hn hbb) (by decide)
  obtain ⟨v', w', hr, h2, h3, _, h5⟩ := run_append_own_at (P := P) w base t o.type e i z size bytes ht hi hz hsize hby hzs hsz v n xs hown ⟨H, 0, none⟩ 1 c news (by omega) (fun j u hj => by rw [show (⟨H, 0, none⟩ : Addr).add j = ⟨H, j, none⟩ by rw [add_cell, Nat.zero_add], cell_heap hc]; simpa using hj) h1 (by unfold maxLen; omega) hb hbase
  unfold Oper.wp execOp
  simp only [ho, resolve, invoke, builtin, Sem.run_bind, Sem.run_pure, Result.andThen_ok, List.map_toArray, List.map_cons, List.map_nil, hs, hx, hr]
  refine h v' w' h2 ⟨h3, ?_⟩
  rcases h5 with h5 | h5
  · exact .inl h5
  · exact .inr ⟨_, h5, Nat.le_refl _⟩
end Go.Proofs.YtklpihaelaagpaaDoor

namespace Go.Proofs.YtklpihaelaagpaaDoor
open Go.RowKit

theorem own_neH {w : World} {B B' n n' size size' : Nat} {e e' : TypeId} {v v' : Value} {xs xs' : List Value} (h : w.ownsRow B e size v n xs) (h' : w.ownsRow B' e' size' v' n' xs') (he : e ≠ e') : ∀ k, v.ownBlock = some k → v'.ownBlock ≠ some k := by
  intro k hk hk'
  rcases h.2 with ⟨rfl, _⟩ | ⟨g, cap, cur, rfl, _, hg, _⟩
  · cases hk
  · cases hk
    rcases h'.2 with ⟨rfl, _⟩ | ⟨g', cap', cur', rfl, _, hg', _⟩
    · cases hk'
    · cases hk'
      rw [hg] at hg'
      cases hg'
      exact he rfl
structure RInv (w : World) (a : Option Addr) (n c : Nat) (sC : BegS) (hs : List HN) (o : List Nat) (vC vN vO : Value) (W : World) : Prop where
  old : Below w.heap.size w W
  size : w.heap.size + 4 ≤ W.heap.size
  chk : Chk W (w.heap.size + 4) w.heap.size vC sC
  bg : W.heap[w.heap.size + 2]? = some (.cells #[.slice a n c, vN] 64 (0, 0))
  nds : ∃ ncs, W.ownsRow (w.heap.size + 1) 79 14 vN hs.length ncs ∧ HnRow w hs ncs
  opn : W.ownsRow (w.heap.size + 3) 3 1 vO o.length (tsC (o.map fun (k : Nat) => (k : Int)))
variable {w W W' : World} {a : Option Addr} {n c : Nat} {sC sC' : BegS} {hs hs' : List HN} {o o' : List Nat} {vC vC' vN vN' vO vO' : Value}
theorem RInv.ne (h : RInv w a n c sC hs o vC vN vO W) :
    (∀ k, vC.ownBlock = some k → w.heap.size + 4 ≤ k ∧ k < W.heap.size) ∧ (∀ k, vN.ownBlock = some k → w.heap.size + 1 ≤ k ∧ k < W.heap.size ∧ k ≠ w.heap.size + 2) ∧ (∀ k, vO.ownBlock = some k → w.heap.size + 3 ≤ k ∧ k < W.heap.size) ∧
    (∀ k, vC.ownBlock = some k → vN.ownBlock ≠ some k ∧ vO.ownBlock ≠ some k) ∧ (∀ k, vN.ownBlock = some k → vO.ownBlock ≠ some k) := by
  obtain ⟨ncs, hn, _⟩ := h.nds
  refine ⟨fun k hk => h.chk.own.lt k hk, fun k hk => ⟨(hn.lt k hk).1, (hn.lt k hk).2, fun e => ?_⟩, fun k hk => h.opn.lt k hk, fun k hk => ⟨own_neH h.chk.own hn (by decide) k hk, own_neH h.chk.own h.opn (by decide) k hk⟩, fun k hk => own_neH hn h.opn (by decide) k hk⟩
  rcases hn.2 with ⟨rfl, _⟩ | ⟨g, cap, cur, rfl, _, hg, _⟩
  · cases hk
  · cases hk
    have hb := h.bg
    rw [← e, hg] at hb
    have h2 := Option.some.inj hb
    injection h2 with _ h3 _
    exact absurd h3 (by decide)
theorem RInv.below (h : RInv w a n c sC hs o vC vN vO W) (hb : Below W.heap.size W W') : RInv w a n c sC hs o vC vN vO W' := by
  obtain ⟨a1, a2, a3, _, _⟩ := h.ne
  obtain ⟨ncs, hn, hr⟩ := h.nds
  exact ⟨h.old.trans (hb.mono h.old.size), Nat.le_trans h.size hb.size, h.chk.below hb, (hb.block _ (by have := h.size; omega)).trans h.bg, ⟨ncs, own_block hn (fun k hk => hb.block k (a2 k hk).2.1), hr⟩, own_block h.opn (fun k hk => hb.block k (a3 k hk).2)⟩
theorem RInv.take (h : RInv w a n c sC hs o vC vN vO W) (hm : Moved w.heap.size vC vC' W W') (hc : Chk W' (w.heap.size + 4) w.heap.size vC' sC') : RInv w a n c sC' hs o vC' vN vO W' := by
  obtain ⟨a1, a2, a3, a4, _⟩ := h.ne
  obtain ⟨ncs, hn, hr⟩ := h.nds
  have hsz := h.size
  exact ⟨h.old.trans (hm.below (Nat.le_refl _) (by omega) (fun k hk => by have := (a1 k hk).1; omega)), Nat.le_trans h.size hm.size, hc, (hm.block _ (by omega) (by omega) (fun e => by have := (a1 _ e).1; omega)).trans h.bg,
    ⟨ncs, own_block hn (fun k hk => hm.block k (a2 k hk).2.1 (by have := (a2 k hk).1; omega) (fun e => (a4 k e).1 hk)), hr⟩, own_block h.opn (fun k hk => hm.block k (a3 k hk).2 (by have := (a3 k hk).1; omega) (fun e => (a4 k e).2 hk))⟩
theorem RInv.opens (h : RInv w a n c sC hs o vC vN vO W) (hm : Moved W.heap.size vO vO' W W') (ho : W'.ownsRow (w.heap.size + 3) 3 1 vO' o'.length (tsC (o'.map fun (k : Nat) => (k : Int)))) : RInv w a n c sC hs o' vC vN vO' W' := by
  obtain ⟨a1, a2, a3, a4, a5⟩ := h.ne
  obtain ⟨ncs, hn, hr⟩ := h.nds
  have hsz := h.size
  exact ⟨h.old.trans (hm.below (by omega) (by omega) (fun k hk => by have := (a3 k hk).1; omega)), Nat.le_trans h.size hm.size, h.chk.keep hm.size (hm.block _ (by omega) (by omega) (fun e => by have := (a3 _ e).1; omega)) (fun k _ h2 hk => hm.block k h2 (by omega) (fun e => (a4 k hk).2 e)),
    (hm.block _ (by omega) (by omega) (fun e => by have := (a3 _ e).1; omega)).trans h.bg, ⟨ncs, own_block hn (fun k hk => hm.block k (a2 k hk).2.1 (by have := (a2 k hk).2.1; omega) (fun e => a5 k hk e)), hr⟩, ho⟩
theorem RInv.nodes (h : RInv w a n c sC hs o vC vN vO W) (hm : Moved (w.heap.size + 2) vN vN' W W') (hb : W'.heap[w.heap.size + 2]? = some (.cells #[.slice a n c, vN'] 64 (0, 0))) (hn' : ∃ ncs, W'.ownsRow (w.heap.size + 1) 79 14 vN' hs'.length ncs ∧ HnRow w hs' ncs) : RInv w a n c sC hs' o vC vN' vO W' := by
  obtain ⟨a1, a2, a3, a4, a5⟩ := h.ne
  have hsz := h.size
  exact ⟨h.old.trans (hm.below (by omega) (by omega) (fun k hk => by have := (a2 k hk).1; omega)), Nat.le_trans h.size hm.size, h.chk.keep hm.size (hm.block _ (by omega) (by omega) (fun e => by have := (a2 _ e).1; omega)) (fun k h1 h2 hk => hm.block k h2 (by omega) (fun e => (a4 k hk).1 e)),
    hb, hn', own_block h.opn (fun k hk => hm.block k (a3 k hk).2 (by have := (a3 k hk).1; omega) (fun e => a5 k e hk))⟩
theorem Moved.setOwnH {x g : Nat} {v v' : Value} {w w' : World} (h : Moved x v v' w w') (hv : v.ownBlock = some g) (i : Nat) (u : Value) : Moved x v v' w (w'.setCell ⟨g, i, none⟩ u) :=
  ⟨h.os, h.tape, h.output, by simp [World.setCell]; exact h.size, fun k h1 h2 h3 => (Below.heap_setCell _ _ _ _ (fun e => h3 (by rw [hv]; exact congrArg some e.symm))).trans (h.block k h1 h2 h3), h.own⟩
theorem RInv.turn {g l' cc : Nat} (h : RInv w a n c sC hs o vC (.slice (some ⟨g, 0, none⟩) l' cc) vO W) (hl : hs.length = l') (k q : Nat) (hk : k < hs.length) (hq : q < 14) (f : HN → HN) (v : Value) (hev : ∀ h, (f h).ev = h.ev)
    (hf : ∀ (h : HN) A m c, hs[k]? = some h → hnL (f h) A m c = (hnL h A m c).set q v) : RInv w a n c sC (hs.modify k f) o vC (.slice (some ⟨g, 0, none⟩) l' cc) vO (W.setCell ⟨g, k * 14 + q, none⟩ v) := by
  obtain ⟨ncs, hn, hr⟩ := h.nds
  have hg := h.ne.2.1 g rfl
  subst hl
  refine h.nodes ((Moved.of (Below.refl _ _)).setOwnH rfl _ _) ((Below.heap_setCell _ _ _ _ (show w.heap.size + 2 ≠ g by omega)).trans h.bg) ⟨ncs.set (k * 14 + q) v, ?_, hr.turn (by have := hn.1; omega) k q hk hq f v hev hf⟩
  rw [List.length_modify]
  exact (hn.stored (k * 14 + q) v).1
theorem RInv.pop {g l' cc : Nat} (h : RInv w a n c sC hs o vC vN (.slice (some ⟨g, 0, none⟩) (l' + 1) cc) W) (hl : o.length = l' + 1) : RInv w a n c sC hs o.dropLast vC vN (.slice (some ⟨g, 0, none⟩) l' cc) W := by
  refine h.opens ⟨rfl, rfl, rfl, Nat.le_refl _, fun _ _ _ _ => rfl, .inl rfl⟩ ?_
  have ho := h.opn
  rw [hl] at ho
  have e : tsC (o.map fun (k : Nat) => (k : Int)) = tsC (o.dropLast.map fun (k : Nat) => (k : Int)) ++ [.int .i64 ((o.getLast (by intro h0; rw [h0] at hl; cases hl) : Nat) : Int)] := by
    conv => lhs; rw [← List.dropLast_concat_getLast (show o ≠ [] by intro h0; rw [h0] at hl; cases hl)]
    unfold tsC
    rw [List.map_append, List.map_append]; rfl
  rw [e] at ho
  rw [List.length_dropLast, hl, Nat.add_sub_cancel]
  exact own_pop ho (by rw [tsC_len, List.length_map, List.length_dropLast, hl]; omega)
end Go.Proofs.YtklpihaelaagpaaDoor

namespace Go.Proofs.YtklpihaelaagpaaDoor
open Go.RowKit

theorem strL_nil : strL [] = ⟨#[]⟩ := rfl
theorem RInv.start (w : World) (a : Option Addr) (n c : Nat) (W : World)
    (hW : W = ((((w.alloc (.cells #[.slice none 0 0, .int .i64 0, .bool false, .bool false] 77)).alloc (.cells #[.int .i64 0, .int .i64 0, .int .i64 0, .string ⟨#[]⟩, .slice none 0 0, .string ⟨#[]⟩, .int .i64 0, .int .i64 0, .int .i64 0, .int .i64 (-1), .bool true, .string ⟨#[]⟩, .int .i64 0, .int .i64 0] 79)).alloc (.cells #[.slice a n c, .slice (some ⟨w.heap.size + 1, 0, none⟩) 1 1] 64)).alloc (.cells #[.int .i64 0] 3))) :
    RInv w a n c beg0 [hRoot] [0] (.slice none 0 0) (.slice (some ⟨w.heap.size + 1, 0, none⟩) 1 1) (.slice (some ⟨w.heap.size + 3, 0, none⟩) 1 1) W := by
  obtain ⟨W1, h1⟩ : ∃ W1, W1 = w.alloc (.cells #[.slice none 0 0, .int .i64 0, .bool false, .bool false] 77) := ⟨_, rfl⟩
  rw [← h1] at hW
  obtain ⟨W2, h2⟩ : ∃ W2, W2 = W1.alloc (.cells #[.int .i64 0, .int .i64 0, .int .i64 0, .string ⟨#[]⟩, .slice none 0 0, .string ⟨#[]⟩, .int .i64 0, .int .i64 0, .int .i64 0, .int .i64 (-1), .bool true, .string ⟨#[]⟩, .int .i64 0, .int .i64 0] 79) := ⟨_, rfl⟩
  rw [← h2] at hW
  obtain ⟨W3, h3⟩ : ∃ W3, W3 = W2.alloc (.cells #[.slice a n c, .slice (some ⟨w.heap.size + 1, 0, none⟩) 1 1] 64) := ⟨_, rfl⟩
  rw [← h3] at hW
  have s1 : W1.heap.size = w.heap.size + 1 := by rw [h1]; simp
  have s2 : W2.heap.size = w.heap.size + 2 := by rw [h2]; simp [s1]
  have s3 : W3.heap.size = w.heap.size + 3 := by rw [h3]; simp [s2]
  have s4 : W.heap.size = w.heap.size + 4 := by rw [hW]; simp [s3]
  have b1 : Below w.heap.size w W1 := by rw [h1]; exact (Below.refl _ _).alloc (Nat.le_refl _) _
  have b2 : Below W1.heap.size W1 W2 := by rw [h2]; exact (Below.refl _ _).alloc (Nat.le_refl _) _
  have b3 : Below W2.heap.size W2 W3 := by rw [h3]; exact (Below.refl _ _).alloc (Nat.le_refl _) _
  have b4 : Below W3.heap.size W3 W := by rw [hW]; exact (Below.refl _ _).alloc (Nat.le_refl _) _
  have b34 := b3.trans (b4.mono (by omega))
  have b24 := b2.trans (b34.mono (by omega))
  have k0 : W.heap[w.heap.size]? = some (.cells #[.slice none 0 0, .int .i64 0, .bool false, .bool false] 77 (0, 0)) := (b24.block _ (by omega)).trans (by rw [h1]; exact heap_alloc_new w _)
  have k2 : W.heap[w.heap.size + 2]? = some (.cells #[.slice a n c, .slice (some ⟨w.heap.size + 1, 0, none⟩) 1 1] 64 (0, 0)) := (b4.block _ (by omega)).trans (by rw [h3, ← s2]; exact heap_alloc_new W2 _)
  have o1 := World.ownsRow_lit (base := w.heap.size + 1) (e := 79) (size := 14) W1 #[.int .i64 0, .int .i64 0, .int .i64 0, .string ⟨#[]⟩, .slice none 0 0, .string ⟨#[]⟩, .int .i64 0, .int .i64 0, .int .i64 0, .int .i64 (-1), .bool true, .string ⟨#[]⟩, .int .i64 0, .int .i64 0] 1 (by omega) (by unfold maxLen; omega) rfl
  have o3 := World.ownsRow_lit (base := w.heap.size + 3) (e := 3) (size := 1) W3 #[.int .i64 0] 1 (by omega) (by unfold maxLen; omega) rfl
  rw [← h2, s1] at o1
  rw [← hW, s3] at o3
  refine ⟨b1.trans (b24.mono (by omega)), by omega, ⟨by omega, by omega, k0, World.ownsRow_nil _ _ _ _, fun _ => rfl, by decide⟩, k2, ⟨_, own_block o1 fun k hk => b34.block k (o1.lt k hk).2, fun i h hi => ?_⟩, o3⟩
  obtain ⟨rfl, rfl⟩ : i = 0 ∧ hRoot = h := by
    cases i with
    | zero => simp at hi; exact ⟨rfl, hi⟩
    | succ i => simp at hi
  refine ⟨none, 0, 0, Nat.le_refl _, ⟨rfl, fun i hi => absurd hi (Nat.not_lt_zero _)⟩, fun j hj => ?_⟩
  rw [Nat.zero_mul, Nat.zero_add]
  rfl
end Go.Proofs.YtklpihaelaagpaaDoor

namespace Go.Proofs.YtklpihaelaagpaaDoor
open Go.RowKit

theorem App.moved {cb : Nat} {v v' : Value} {w w' : World} (h : App w w' v v') : Moved cb v v' w w' := Moved.app h
variable {w W W2 : World} {a : Option Addr} {n c : Nat} {sC : BegS} {hs : List HN} {o : List Nat} {vC vN vN' vO vO' : Value}
theorem own_neB {w : World} {B n size j : Nat} {e e' : TypeId} {v : Value} {xs : List Value} {cs : Array Value} {fz : Nat × Nat} (h : w.ownsRow B e size v n xs) (hb : w.heap[j]? = some (.cells cs e' fz)) (he : e ≠ e') : v.ownBlock ≠ some j := by
  intro hk
  rcases h.2 with ⟨rfl, _⟩ | ⟨g, cap, cur, rfl, _, hg, _⟩
  · cases hk
  · cases hk
    rw [hg] at hb
    cases hb
    exact he rfl
theorem RInv.push {H : HN} {A : Option Addr} {m c' : Nat} {ncs : List Value} (h : RInv w a n c sC hs o vC vN vO W) (hr : HnRow w hs ncs) (hl : ncs.length = hs.length * 14) (h1 : m ≤ c') (h2 : AttrsAt w A m H.ev.ats) (hap : App W W2 vN vN')
    (hown : W2.ownsRow (w.heap.size + 1) 79 14 vN' (hs.length + 1) (ncs ++ hnL H A m c')) : RInv w a n c sC (hs ++ [H]) o vC vN' vO (W2.setCell ⟨w.heap.size + 2, 1, none⟩ vN') := by
  have hsz := h.size
  have hbg : W2.heap[w.heap.size + 2]? = some (.cells #[.slice a n c, vN] 64 (0, 0)) := (hap.keep (k := w.heap.size + 2) (by omega) (fun e => (h.ne.2.1 _ e).2.2 rfl)).trans h.bg
  have hkeep : ∀ k, vN'.ownBlock = some k → (W2.setCell ⟨w.heap.size + 2, 1, none⟩ vN').heap[k]? = W2.heap[k]? := fun k hk => Below.heap_setCell _ _ _ _ fun e => own_neB hown hbg (by decide) (by rw [hk, e])
  exact h.nodes ((Moved.app hap).set _ _) (setCell_heap hbg _) ⟨_, by rw [List.length_append]; exact own_block hown hkeep, hr.push hl H A m c' h1 h2⟩
theorem RInv.open1 {nl ol : Nat} (h : RInv w a n c sC hs o vC vN vO W) (hol : o.length = ol) (hap : App W W2 vO vO') (hown : W2.ownsRow (w.heap.size + 3) 3 1 vO' (ol + 1) (tsC (o.map fun (k : Nat) => (k : Int)) ++ [.int .i64 (nl : Int)])) : RInv w a n c sC hs (o ++ [nl]) vC vN vO' W2 := by
  refine h.opens (Moved.app hap) ?_
  rw [List.length_append, hol, List.length_singleton, List.map_append]
  unfold tsC at hown ⊢
  rw [List.map_append]
  exact hown
theorem RInv.addT {g l' cc : Nat} (h : RInv w a n c sC hs o vC (.slice (some ⟨g, 0, none⟩) l' cc) vO W) (hl : hs.length = l') (k : Nat) (hk : k < hs.length) (t : List UInt8) : RInv w a n c sC (hs.modify k (addT t)) o vC (.slice (some ⟨g, 0, none⟩) l' cc) vO (W.setCell ⟨g, k * 14 + 11, none⟩ (.string (strL (hs[k].txt ++ t)))) :=
  h.turn hl k 11 hk (by decide) (Go.Proofs.YtklpihaelaagpaaDoor.addT t) _ (fun _ => rfl) fun y A m c hy => by
    rw [List.getElem?_eq_getElem hk] at hy
    cases hy
    exact hn_txt t _ A m c
theorem RInv.nodeAt {g l' cc : Nat} (h : RInv w a n c sC hs o vC (.slice (some ⟨g, 0, none⟩) l' cc) vO W) (hl : hs.length = l') (k : Nat) (hk : k < hs.length) : ∃ (A : Option Addr) (m c : Nat), m ≤ c ∧ AttrsAt w A m hs[k].ev.ats ∧ ∀ j, j < 14 → W.cell? ⟨g, k * 14 + j, none⟩ = (hnL hs[k] A m c)[j]? := by
  obtain ⟨ncs, hn, hr⟩ := h.nds
  subst hl
  obtain ⟨A, m, c, h1, h2, h3⟩ := hr k hs[k] (List.getElem?_eq_getElem hk)
  exact ⟨A, m, c, h1, h2, fun j hj => by rw [hn.cellAt (k * 14 + j) (by omega)]; exact h3 j hj⟩
theorem RInv.txtAt {g l' cc : Nat} (h : RInv w a n c sC hs o vC (.slice (some ⟨g, 0, none⟩) l' cc) vO W) (hl : hs.length = l') (k : Nat) (hk : k < hs.length) : W.cell? ⟨g, k * 14 + 11, none⟩ = some (.string (strL hs[k].txt)) ∧ W.frozen? ⟨g, k * 14 + 11, none⟩ = false := by
  obtain ⟨A, m, c, _, _, h3⟩ := h.nodeAt hl k hk
  obtain ⟨ncs, hn, _⟩ := h.nds
  subst hl
  exact ⟨(h3 11 (by decide)).trans (by rw [hnL_eq]; rfl), hn.frozenAt _⟩
theorem RInv.slice (h : RInv w a n c sC hs o vC vN vO W) (hp : 1 ≤ hs.length) : ∃ g cc, vN = .slice (some ⟨g, 0, none⟩) hs.length cc ∧ g < W.heap.size := by
  obtain ⟨ncs, hn, _⟩ := h.nds
  obtain ⟨oa, na, rfl, hna, hoa0, hoas⟩ := own_slice hn
  cases oa with
  | none => have := hoa0 rfl; omega
  | some ad => obtain ⟨g, rfl, _⟩ := hoas ad rfl; exact ⟨g, na, rfl, (hn.lt g rfl).2⟩
theorem RInv.hat (h : RInv w a n c sC hs o vC vN vO W) (hp : 1 ≤ hs.length) (hc : hs.length ≤ 1048577) (hpar : ∀ (i : Nat) (h : HN), hs[i]? = some h → 1 ≤ i → 0 ≤ h.par ∧ h.par < (i : Int))
    (htx : ∀ h ∈ hs, h.txt.length ≤ 1048576) (hat : ∀ h ∈ hs, h.ev.ats.length ≤ 1048576 ∧ ∀ p ∈ h.ev.ats, p.2.length ≤ 1048576) : HAt W (w.heap.size + 2) hs := by
  obtain ⟨g, cc, rfl, hg⟩ := h.slice hp
  have hsz := h.size
  refine ⟨by omega, hp, hc, hpar, some ⟨g, 0, none⟩, cc, by rw [cell_heap h.bg]; rfl, fun i hi => ?_⟩
  obtain ⟨A, m, c1, h1, h2, h3⟩ := h.nodeAt rfl i hi
  have hm := hat _ (List.getElem_mem hi)
  exact ⟨g, 0, A, m, c1, rfl, hg, h1, by rw [h2.1]; exact hm.1, h2.below h.old, hm.2, htx _ (List.getElem_mem hi), fun j hj => by rw [Nat.zero_add]; exact h3 j hj⟩
theorem hAll_open (N : Nat) (evs : List Ev) (k : Nat) (h : k < evs.length) (h0 : evs[k].kind = 0) : hAll N evs (k + 1) = ((hAll N evs k).1 ++ [⟨evs[k], 1, topH (hAll N evs k).2, true, [], k, N⟩], (hAll N evs k).2 ++ [(hAll N evs k).1.length]) := by
  rw [hAll_succ N evs k h]
  unfold hNext
  rw [if_pos h0]
def txK (t : List UInt8) (o : List Nat) (hs : List HN) (j : Nat) : List HN := (o.take j).foldl (fun l k => l.modify k (addT t)) hs
theorem txK_zero (t : List UInt8) (o : List Nat) (hs : List HN) : txK t o hs 0 = hs := by unfold txK; rw [List.take_zero]; rfl
theorem txK_succ (t : List UInt8) (o : List Nat) (hs : List HN) (j : Nat) (h : j < o.length) : txK t o hs (j + 1) = (txK t o hs j).modify o[j] (addT t) := by
  unfold txK; rw [List.take_succ_eq_append_getElem h, List.foldl_append]; rfl
theorem txK_len (t : List UInt8) (o : List Nat) (hs : List HN) (j : Nat) : (txK t o hs j).length = hs.length := foldl_modify_len _ _ _
theorem hAll_text (N : Nat) (evs : List Ev) (k : Nat) (h : k < evs.length) (h1 : evs[k].kind = 1) : hAll N evs (k + 1) = (txK evs[k].text (hAll N evs k).2 ((hAll N evs k).1 ++ [⟨evs[k], 2, topH (hAll N evs k).2, false, evs[k].text, k, k + 1⟩]) (hAll N evs k).2.length, (hAll N evs k).2) := by
  rw [hAll_succ N evs k h]
  unfold hNext txK
  rw [if_neg (by omega), if_pos h1, List.take_length]
end Go.Proofs.YtklpihaelaagpaaDoor
