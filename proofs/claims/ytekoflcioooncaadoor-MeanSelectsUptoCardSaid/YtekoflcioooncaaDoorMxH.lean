/-
  A tree in the making: what lies in memory behind each event.
-/
import Derived.Test.YtekoflcioooncaaDoorMxG
import Derived.Deep.RegionHeld3
import Derived.RowKit
import Derived.Test.YtekoflcioooncaaDoorMxC
import Derived.Test.YtekoflcioooncaaDoorProg
import Derived.Shelf.Unicode.ValidAny
import Derived.Lib.LaidU8T
import Derived.Test.YtekoflcioooncaaDoorMxD
namespace Go.Proofs.YtekoflcioooncaaDoor
open Go.RowKit

def ndL (e : Ev) (x : Nd) (A : Option Addr) (m c : Nat) : List Value := evL e A m c ++ [.int .i64 x.par, .int .i64 x.last, .int .i64 x.pos, .int .i64 x.fin]
theorem ndL_length (e : Ev) (x : Nd) (A : Option Addr) (m c : Nat) : (ndL e x A m c).length = 12 := rfl
theorem ndL_one (e : Ev) (x : Nd) (A : Option Addr) (m c : Nat) : ∀ u ∈ ndL e x A m c, u.oneCell' = true := by
  intro u hu
  unfold ndL evL evC at hu
  simp only [List.cons_append, List.nil_append, List.mem_cons, List.not_mem_nil, or_false] at hu
  rcases hu with rfl | rfl | rfl | rfl | rfl | rfl | rfl | rfl | rfl | rfl | rfl | rfl <;> rfl
def NdRow (wc : World) (cb : Nat) (evs : List Ev) (nds : List Nd) (ncs : List Value) : Prop :=
  ∀ i x, nds[i]? = some x → ∃ (e : Ev) (A : Option Addr) (m c : Nat), evs[x.pos]? = some e ∧ m ≤ c ∧ AttrsAt wc A m e.ats ∧ (∀ ad, A = some ad → cb < ad.block) ∧ ∀ j, j < 12 → ncs[i * 12 + j]? = (ndL e x A m c)[j]?
theorem NdRow.push {wc : World} {cb : Nat} {evs : List Ev} {nds : List Nd} {ncs : List Value} (h : NdRow wc cb evs nds ncs) (hl : ncs.length = nds.length * 12) (x : Nd) (e : Ev) (A : Option Addr) (m c : Nat)
    (h1 : evs[x.pos]? = some e) (h2 : m ≤ c) (h3 : AttrsAt wc A m e.ats) (h4 : ∀ ad, A = some ad → cb < ad.block) : NdRow wc cb evs (nds ++ [x]) (ncs ++ ndL e x A m c) := by
  intro i y hy
  rcases snoc_get hy with ⟨hi, hy⟩ | ⟨hi, rfl⟩
  · obtain ⟨e', A', m', c', g1, g2, g3, g4, g5⟩ := h i y hy
    exact ⟨e', A', m', c', g1, g2, g3, g4, fun j hj => by rw [List.getElem?_append_left (by omega)]; exact g5 j hj⟩
  · exact ⟨e, A, m, c, h1, h2, h3, h4, fun j hj => by rw [List.getElem?_append_right (by omega), show i * 12 + j - ncs.length = j by omega]⟩
theorem NdRow.close {wc : World} {cb : Nat} {evs : List Ev} {nds : List Nd} {ncs : List Value} (h : NdRow wc cb evs nds ncs) (hl : ncs.length = nds.length * 12) (k : Nat) (hk : k < nds.length) (la : Int) (fi : Nat) :
    NdRow wc cb evs (nds.modify k (fun x => ⟨x.pos, x.par, la, fi⟩)) ((ncs.set (k * 12 + 9) (.int .i64 la)).set (k * 12 + 11) (.int .i64 fi)) := by
  intro i y hy
  rw [List.getElem?_modify] at hy
  cases hx : nds[i]? with
  | none => rw [hx] at hy; simp at hy
  | some x =>
    rw [hx] at hy
    obtain ⟨e', A', m', c', g1, g2, g3, g4, g5⟩ := h i x hx
    by_cases hik : k = i
    · subst hik
      simp at hy
      subst hy
      refine ⟨e', A', m', c', g1, g2, g3, g4, fun j hj => ?_⟩
      rw [List.getElem?_set, List.getElem?_set]
      have h11 := g5 j hj
      simp only [List.length_set]
      by_cases j11 : j = 11
      · subst j11
        rw [if_pos rfl, if_pos (by omega)]; rfl
      · rw [if_neg (by omega)]
        by_cases j9 : j = 9
        · subst j9
          rw [if_pos rfl, if_pos (by omega)]; rfl
        · rw [if_neg (by omega), h11]
          match j, hj, j11, j9 with
          | 0, _, _, _ => rfl
          | 1, _, _, _ => rfl
          | 2, _, _, _ => rfl
          | 3, _, _, _ => rfl
          | 4, _, _, _ => rfl
          | 5, _, _, _ => rfl
          | 6, _, _, _ => rfl
          | 7, _, _, _ => rfl
          | 8, _, _, _ => rfl
          | 10, _, _, _ => rfl
          | j + 12, h, _, _ => exact absurd h (by omega)
    · simp [hik] at hy
      subst hy
      refine ⟨e', A', m', c', g1, g2, g3, g4, fun j hj => ?_⟩
      rw [List.getElem?_set, List.getElem?_set, if_neg (by omega), if_neg (by omega)]
      exact g5 j hj
def opC (l : List (Int × Int × List UInt8)) : List Value := .int .i64 (-1) :: (l.reverse.map fun x => .int .i64 x.1)
theorem opC_cons (x : Int × Int × List UInt8) (l : List (Int × Int × List UInt8)) : opC (x :: l) = opC l ++ [.int .i64 x.1] := by simp [opC]
theorem opC_length (l : List (Int × Int × List UInt8)) : (opC l).length = l.length + 1 := by simp [opC]
theorem opC_top (l : List (Int × Int × List UInt8)) : (opC l)[l.length]? = some (.int .i64 ((l.head?.map (·.1)).getD (-1))) := by
  cases l with
  | nil => rfl
  | cons x r => rw [opC_cons, List.length_cons, ← opC_length]; simp
theorem own_ne {w : World} {B B' n n' size size' : Nat} {e e' : TypeId} {v v' : Value} {xs xs' : List Value} (h : w.ownsRow B e size v n xs) (h' : w.ownsRow B' e' size' v' n' xs') (he : e ≠ e') : ∀ k, v.ownBlock = some k → v'.ownBlock ≠ some k := by
  intro k hk hk'
  rcases h.2 with ⟨rfl, _⟩ | ⟨g, cap, cur, rfl, _, hg, _⟩
  · cases hk
  · cases hk
    rcases h'.2 with ⟨rfl, _⟩ | ⟨g', cap', cur', rfl, _, hg', _⟩
    · cases hk'
    · cases hk'
      rw [hg] at hg'
      cases hg'
      exact he rfl
theorem own_not {w : World} {B n size k : Nat} {e e' : TypeId} {v : Value} {xs : List Value} {c : Array Value} {fz : Nat × Nat} (h : w.ownsRow B e size v n xs) (hk : w.heap[k]? = some (.cells c e' fz)) (he : e ≠ e') : v.ownBlock ≠ some k := by
  intro e
  rcases h.2 with ⟨rfl, _⟩ | ⟨g, cap, cur, rfl, _, hg, _⟩
  · cases e
  · cases e
    rw [hk] at hg
    cases hg
    exact he rfl
theorem beg_le : ∀ (l : List Ev) (s t : BegS), begAll s l = some t → t.opn.length ≤ s.opn.length + l.length ∧ t.next ≤ s.next + l.length ∧ s.next ≤ t.next ∧ t.cnt = s.cnt + l.length := by
  intro l
  induction l with
  | nil => intro s t h; simp only [begAll, Option.some.injEq] at h; subst h; simp
  | cons e l ih =>
    intro s t h
    unfold begAll at h
    split at h
    · have := ih _ _ h
      have h1 : (begNext s e).opn.length ≤ s.opn.length + 1 := by
        unfold begNext
        simp only
        split
        · simp
        · split
          · simp; omega
          · omega
      have h2 : (begNext s e).next ≤ s.next + 1 ∧ s.next ≤ (begNext s e).next := by
        unfold begNext
        simp only
        split <;> omega
      have h3 : (begNext s e).cnt = s.cnt + 1 := rfl
      simp only [List.length_cons]
      omega
    · cases h
structure BInv (wc : World) (cb ge n : Nat) (evs : List Ev) (sC s : BegS) (nds : List Nd) (vC vN vO : Value) (W : World) : Prop where
  os : W.os = wc.os
  tape : W.tape = wc.tape
  output : W.output = wc.output
  size : wc.heap.size + 2 ≤ W.heap.size
  block : ∀ j, j < wc.heap.size → j ≠ cb → W.heap[j]? = wc.heap[j]?
  chk : Chk W (wc.heap.size + 2) cb vC sC
  tree : W.heap[wc.heap.size]? = some (.cells #[.slice (some ⟨ge, 0, none⟩) n n, vN] 78 (0, 0))
  nds' : ∃ ncs, W.ownsRow (wc.heap.size + 2) 82 12 vN nds.length ncs ∧ NdRow wc cb evs nds ncs
  opn : W.ownsRow (wc.heap.size + 1) 3 1 vO (s.opn.length + 1) (opC s.opn)
variable {wc W W' : World} {cb ge n : Nat} {evs : List Ev} {sC sC' s s' : BegS} {nds nds' : List Nd} {vC vC' vN vN' vO vO' : Value}
theorem BInv.ne (h : BInv wc cb ge n evs sC s nds vC vN vO W) (hcb : cb < wc.heap.size) :
    (∀ k, vC.ownBlock = some k → wc.heap.size + 2 ≤ k ∧ k < W.heap.size) ∧ (∀ k, vN.ownBlock = some k → wc.heap.size + 2 ≤ k ∧ k < W.heap.size) ∧ (∀ k, vO.ownBlock = some k → wc.heap.size + 1 ≤ k ∧ k < W.heap.size) ∧
    (∀ k, vC.ownBlock = some k → vN.ownBlock ≠ some k ∧ vO.ownBlock ≠ some k) ∧ (∀ k, vN.ownBlock = some k → vO.ownBlock ≠ some k) ∧ cb < W.heap.size ∧ wc.heap.size < W.heap.size := by
  obtain ⟨ncs, hn, _⟩ := h.nds'
  have hs := h.size
  exact ⟨fun k hk => h.chk.own.lt k hk, fun k hk => hn.lt k hk, fun k hk => h.opn.lt k hk, fun k hk => ⟨own_ne h.chk.own hn (by decide) k hk, own_ne h.chk.own h.opn (by decide) k hk⟩, fun k hk => own_ne hn h.opn (by decide) k hk, by omega, by omega⟩
theorem BInv.below (h : BInv wc cb ge n evs sC s nds vC vN vO W) (hcb : cb < wc.heap.size) (hb : Below W.heap.size W W') : BInv wc cb ge n evs sC s nds vC vN vO W' := by
  obtain ⟨a1, a2, a3, a4, a5, a6, a7⟩ := h.ne hcb
  obtain ⟨ncs, hn, hr⟩ := h.nds'
  exact ⟨hb.os.trans h.os, hb.tape.trans h.tape, hb.output.trans h.output, Nat.le_trans h.size hb.size, fun j h1 h2 => (hb.block j (by omega)).trans (h.block j h1 h2), h.chk.below hb, (hb.block _ a7).trans h.tree,
    ⟨ncs, own_block hn (fun k hk => hb.block k (a2 k hk).2), hr⟩, own_block h.opn (fun k hk => hb.block k (a3 k hk).2)⟩
theorem BInv.take (h : BInv wc cb ge n evs sC s nds vC vN vO W) (hcb : cb < wc.heap.size) (hm : Moved cb vC vC' W W') (hc : Chk W' (wc.heap.size + 2) cb vC' sC') : BInv wc cb ge n evs sC' s nds vC' vN vO W' := by
  obtain ⟨a1, a2, a3, a4, a5, a6, a7⟩ := h.ne hcb
  obtain ⟨ncs, hn, hr⟩ := h.nds'
  refine ⟨hm.os.trans h.os, hm.tape.trans h.tape, hm.output.trans h.output, Nat.le_trans h.size hm.size, fun j h1 h2 => (hm.block j (by omega) h2 (fun e => by have := a1 j e; omega)).trans (h.block j h1 h2), hc, (hm.block _ a7 (by omega) (fun e => by have := a1 _ e; omega)).trans h.tree,
    ⟨ncs, own_block hn (fun k hk => hm.block k (a2 k hk).2 (fun e => by have := a2 k hk; omega) (fun e => (a4 k e).1 hk)), hr⟩, own_block h.opn (fun k hk => hm.block k (a3 k hk).2 (fun e => by have := a3 k hk; omega) (fun e => (a4 k e).2 hk))⟩
theorem BInv.node (h : BInv wc cb ge n evs sC s nds vC vN vO W) (hcb : cb < wc.heap.size) (hm : Moved wc.heap.size vN vN' W W') (ht : W'.heap[wc.heap.size]? = some (.cells #[.slice (some ⟨ge, 0, none⟩) n n, vN'] 78 (0, 0)))
    (hn' : ∃ ncs, W'.ownsRow (wc.heap.size + 2) 82 12 vN' nds'.length ncs ∧ NdRow wc cb evs nds' ncs) : BInv wc cb ge n evs sC s nds' vC vN' vO W' := by
  obtain ⟨a1, a2, a3, a4, a5, a6, a7⟩ := h.ne hcb
  refine ⟨hm.os.trans h.os, hm.tape.trans h.tape, hm.output.trans h.output, Nat.le_trans h.size hm.size, fun j h1 h2 => (hm.block j (by omega) (by omega) (fun e => by have := a2 j e; omega)).trans (h.block j h1 h2), ?_, ht, hn',
    own_block h.opn (fun k hk => hm.block k (a3 k hk).2 (fun e => by have := a3 k hk; omega) (fun e => a5 k e hk))⟩
  exact h.chk.keep hm.size (hm.block cb a6 (by omega) (fun e => by have := a2 _ e; omega)) (fun k h1 h2 hk => hm.block k h2 (by omega) (fun e => (a4 k hk).1 e))
theorem BInv.open' (h : BInv wc cb ge n evs sC s nds vC vN vO W) (hcb : cb < wc.heap.size) (hm : Moved W.heap.size vO vO' W W') (ho : W'.ownsRow (wc.heap.size + 1) 3 1 vO' (s'.opn.length + 1) (opC s'.opn)) : BInv wc cb ge n evs sC s' nds vC vN vO' W' := by
  obtain ⟨a1, a2, a3, a4, a5, a6, a7⟩ := h.ne hcb
  obtain ⟨ncs, hn, hr⟩ := h.nds'
  refine ⟨hm.os.trans h.os, hm.tape.trans h.tape, hm.output.trans h.output, Nat.le_trans h.size hm.size, fun j h1 h2 => (hm.block j (by omega) (by omega) (fun e => by have := a3 j e; omega)).trans (h.block j h1 h2), ?_, (hm.block _ a7 (by omega) (fun e => by have := a3 _ e; omega)).trans h.tree,
    ⟨ncs, own_block hn (fun k hk => hm.block k (a2 k hk).2 (by have := a2 k hk; omega) (fun e => a5 k hk e)), hr⟩, ho⟩
  exact h.chk.keep hm.size (hm.block cb a6 (by omega) (fun e => by have := a3 _ e; omega)) (fun k h1 h2 hk => hm.block k h2 (by omega) (fun e => (a4 k hk).2 e))
theorem Moved.setOwn {x g : Nat} {v v' : Value} {w w' : World} (h : Moved x v v' w w') (hv : v.ownBlock = some g) (i : Nat) (u : Value) : Moved x v v' w (w'.setCell ⟨g, i, none⟩ u) :=
  ⟨h.os, h.tape, h.output, by simp [World.setCell]; exact h.size, fun k h1 h2 h3 => (Below.heap_setCell _ _ _ _ (fun e => h3 (by rw [hv]; exact congrArg some e.symm))).trans (h.block k h1 h2 h3), h.own⟩
theorem EvRow.at8 {w W : World} {cb ge B n : Nat} {evs : List Ev} {cs : List Value} (ho : w.ownsRow B 71 8 (.slice (some ⟨ge, 0, none⟩) n n) n cs) (h : EvRow w (ge + 1) n evs cs) (hn : n = evs.length) (i : Nat) (hi : i < n) (hcb : cb < ge) (hW : ∀ j, j < w.heap.size → j ≠ cb → W.heap[j]? = w.heap[j]?) :
    ∃ (e : Ev) (A : Option Addr) (m c : Nat), evs[i]? = some e ∧ m ≤ c ∧ AttrsAt w A m e.ats ∧ (∀ ad, A = some ad → cb < ad.block) ∧
      W.cell? ⟨ge, i * 8, none⟩ = some (.int .i64 e.kind) ∧ W.cell? ⟨ge, i * 8 + 1, none⟩ = some (.int .i64 e.num) ∧ W.cell? ⟨ge, i * 8 + 2, none⟩ = some (.int .i64 e.dep) ∧ W.cell? ⟨ge, i * 8 + 3, none⟩ = some (.string (strL e.name)) ∧
      W.cell? ⟨ge, i * 8 + 4, none⟩ = some (.slice A m c) ∧ W.cell? ⟨ge, i * 8 + 5, none⟩ = some (.string (strL e.text)) ∧ W.cell? ⟨ge, i * 8 + 6, none⟩ = some (.int .i64 e.fr) ∧ W.cell? ⟨ge, i * 8 + 7, none⟩ = some (.int .i64 e.tt) := by
  obtain ⟨A, m, c, hmc, hA, hfr, hc⟩ := h i (by omega) hi
  have hg := (ho.lt ge rfl).2
  have hk := hW ge hg (by omega)
  have hcell : ∀ j, j < 8 → W.cell? ⟨ge, i * 8 + j, none⟩ = (evL evs[i] A m c)[j]? := fun j hj => by
    have e1 : W.cell? ⟨ge, i * 8 + j, none⟩ = w.cell? ⟨ge, i * 8 + j, none⟩ := by simp only [World.cell?, hk]
    rw [e1, ho.cellAt _ (by omega), hc j hj]
  exact ⟨evs[i], A, m, c, List.getElem?_eq_getElem (by omega), hmc, hA, fun ad h => by have := hfr ad h; omega, hcell 0 (by decide), hcell 1 (by decide), hcell 2 (by decide), hcell 3 (by decide), hcell 4 (by decide), hcell 5 (by decide), hcell 6 (by decide), hcell 7 (by decide)⟩
end Go.Proofs.YtekoflcioooncaaDoor

namespace Go.Proofs.YtekoflcioooncaaDoor
open Go.RowKit

def listedAfter : List Nat → Array Bool → Array Bool
  | [], l => l
  | i :: is, l => listedAfter is (l.setIfInBounds i true)
def putU : List (Option Tmp) → Act → Act
  | [], a => a
  | d :: ds, a => putU ds (a.put d undef)
def skipOk (md : Region.Mode) (ops : Array Oper) : List Nat → List (Option Tmp) → Array Bool → Act → Bool
  | [], [], _, _ => true
  | i :: is, d :: ds, l, a => (match ops[i]? with
      | some o => o.dst == d && !(Region.wanted o (yielded ops a.tmps))
      | none => false) && Region.free md ops l i && (Region.ready md ops l).contains i && skipOk md ops is ds (l.setIfInBounds i true) (a.put d undef)
  | _, _, _, _ => false
theorem wpAnyH_skips {P : Program} {md : Region.Mode} {ops : Array Oper} {Q : Exit → Act → World → Prop} {S : World → Prop} {fuel : Nat} {w : World} (hs : Region.noSelect ops = true)
    (hQ : ∀ d c a w, Q (.panic c) (Act.put a d undef) w → Q (.panic c) a w) (hS : S w) :
    ∀ (is : List Nat) (ds : List (Option Tmp)) (n : Nat) (listed : Array Bool) (a : Act), is.length = n → skipOk md ops is ds listed a = true →
      wpAnyH P md ops Q S fuel (listedAfter is listed) (putU ds a) w → wpAnyH P md ops Q S (fuel + n) listed a w
  | [], [], n, listed, a, hn, _, h => by
    subst hn
    exact h
  | [], _ :: _, _, _, _, _, hk, _ => by simp [skipOk] at hk
  | _ :: _, [], _, _, _, _, hk, _ => by simp [skipOk] at hk
  | i :: is, d :: ds, n, listed, a, hn, hk, h => by
    subst hn
    unfold skipOk at hk
    simp only [Bool.and_eq_true] at hk
    obtain ⟨⟨⟨hk0, hk1⟩, hk2⟩, hk3⟩ := hk
    cases ho : ops[i]? with
    | none => rw [ho] at hk0; simp at hk0
    | some o =>
      rw [ho] at hk0
      simp only [Bool.and_eq_true, Bool.not_eq_true', beq_iff_eq] at hk0
      obtain ⟨rfl, hw⟩ := hk0
      exact wpAnyH_take (v := undef) (fuel := fuel + is.length) ho hs hk1 hk2 (hQ o.dst) (Or.inr ⟨hw, rfl⟩) hS (wpAnyH_skips hs hQ hS is ds is.length _ _ rfl hk3 h)
end Go.Proofs.YtekoflcioooncaaDoor

namespace Go.Proofs.YtekoflcioooncaaDoor
open Go.RowKit

theorem extU (l : List UInt8) (i j : Nat) : (strU l).extract i j = strU ((l.drop i).take (j - i)) := by rw [strU, ByteArray.extract_mk]; rfl
theorem strU_add (l m : List UInt8) : strU l ++ strU m = strU (l ++ m) := by
  apply ByteArray.ext
  simp [strU]
theorem bytesV_strU (l : List UInt8) : bytesV (strU l) = u8s l := rfl
theorem strU_nil : strU [] = ⟨#[]⟩ := rfl
theorem run_catU {P : Program} (a b : List UInt8) (ha : a.length ≤ 8388608) (hb : b.length ≤ 8388608) (w : World) : (Op.stringOp .add (strU a) (strU b)).run P w = .ok (.string (strU (a ++ b))) w := by
  rw [run_string_add (P := P) w _ _ (by rw [strU_size]; omega) (by rw [strU_size]; omega), strU_add]
theorem cmpU_eq {a b : List UInt8} (h : a = b) : ((strU a).toList == (strU b).toList) = true := by rw [h]; simp
theorem strU_toList (l : List UInt8) : (strU l).toList = l := by rw [ByteArray.toList_eq]; simp [strU]
theorem cmpU_ne {a b : List UInt8} (h : a ≠ b) : ((strU a).toList == (strU b).toList) = false := by rw [strU_toList, strU_toList]; simpa using h
theorem strU_empty (l : List UInt8) : (strU l).toList.isEmpty = l.isEmpty := by
  rw [ByteArray.toList_eq]
  simp [strU]
end Go.Proofs.YtekoflcioooncaaDoor

namespace Go.Proofs.YtekoflcioooncaaDoor
open Go.RowKit

def validRen : Go.Shelf.Ren := ⟨fun | 196 => 77 | 259 => 90 | n => n, fun | 12 => 12 | 46 => 145 | 53 => 157 | 119 => 141 | 138 => 143 | 139 => 144 | n => n, fun | 3 => 0 | 4 => 1 | n => n⟩
theorem laysValid : Go.Proofs.Lays.n196 Tryd.prog validRen where
  mixed := by kernel_rfl
  f196 := Tryd.func77.trans (congrArg some (by kernel_rfl))
  f259 := Tryd.func90.trans (congrArg some (by kernel_rfl))
  t0 := Tryd.underlying0
  a0 := Tryd.isAgg0
  z0 := Tryd.sizeOf0
  v0 := Tryd.zeroValue0
  t3 := Tryd.underlying3
  a3 := Tryd.isAgg3
  z3 := Tryd.sizeOf3
  v3 := Tryd.zeroValue3
  t4 := Tryd.underlying4
  a4 := Tryd.isAgg4
  z4 := Tryd.sizeOf4
  v4 := Tryd.zeroValue4
  t5 := Tryd.underlying5
  a5 := Tryd.isAgg5
  z5 := Tryd.sizeOf5
  v5 := Tryd.zeroValue5
  t9 := Tryd.underlying9
  a9 := Tryd.isAgg9
  z9 := Tryd.sizeOf9
  v9 := Tryd.zeroValue9
  t12 := Tryd.underlying12
  a12 := Tryd.isAgg12
  z12 := Tryd.sizeOf12
  v12 := Tryd.zeroValue12
  t46 := Tryd.underlying145
  a46 := Tryd.isAgg145
  z46 := Tryd.sizeOf145
  v46 := Tryd.zeroValue145
  t53 := Tryd.underlying157
  a53 := Tryd.isAgg157
  z53 := Tryd.sizeOf157
  v53 := Tryd.zeroValue157
  t119 := Tryd.underlying141
  a119 := Tryd.isAgg141
  z119 := Tryd.sizeOf141
  t138 := Tryd.underlying143
  a138 := Tryd.isAgg143
  z138 := Tryd.sizeOf143
  v138 := Tryd.zeroValue143
  t139 := Tryd.underlying144
  a139 := Tryd.isAgg144
  z139 := Tryd.sizeOf144
  v139 := Tryd.zeroValue144
  g3 := by kernel_rfl
  g4 := by kernel_rfl
theorem Valid_any (s : ByteArray) (w : World) (hs : s.size ≤ 9223372036854775807) (hT : Lib.Utf8Tabs 0 1 w) :
    Calls Tryd.prog 77 #[.string s] w fun e w' => e = .returned (.bool (Lib.validD s.data.toList)) ∧ Below w.heap.size w w' :=
  Any.utf8_ValidString laysValid s w hs hT
theorem u8types : U8Types Tryd.prog validRen := U8Types.of196 laysValid
end Go.Proofs.YtekoflcioooncaaDoor

namespace Go.Proofs.YtekoflcioooncaaDoor
open Go.RowKit

set_option maxRecDepth 100000 in
set_option maxHeartbeats 1000000 in
theorem Name_any (l : List UInt8) (w : World) (hl : l.length ≤ 1073741824) (hR : RangesAt w 2) (hT : Lib.Utf8Tabs 0 1 w) :
    Calls Tryd.prog 75 #[.string (strU l)] w fun e w' => e = .returned (.bool (nameB l)) ∧ Below w.heap.size w w' := by
  have HR := Lib.hid hR
  have HT := Lib.hid hT
  have HV : Hid (∀ W, Below w.heap.size w W → Calls Tryd.prog 77 #[.string (strU l)] W fun e w' => e = .returned (.bool (Lib.validD l)) ∧ Below W.heap.size W w') := Lib.hid fun W hW => by
    have := Valid_any (strU l) W (by rw [strU_size]; omega) (Utf8Tabs_below HT.out hW)
    rw [strU_data] at this
    exact this
  have HI : Hid (∀ (c r : Nat) W, c < 6 → Below w.heap.size w W → Calls Tryd.prog 76 #[.int .i64 c, .int .i32 r] W fun e w' => e = .returned (.bool (isR (rng c) r)) ∧ Below W.heap.size W w') := Lib.hid fun c r W hc hW => Is_any c hc r W (HR.out.below hW)
  have HD : Hid (∀ pos, decL (l.drop pos) = Utf8.decode (strU l) pos) := Lib.hid (decL_str l)
  have HE : Hid (nameB l = (!l.isEmpty && (clsL 2 l && Lib.validD l))) := Lib.hid rfl
  have hse := strU_empty l
  have HZ : Hid ((strU l).size = l.length) := Lib.hid (strU_size l)
  clear hR hT HR HT
  generalize Lib.validD l = V at *
  generalize nameB l = T at *
  generalize hS : strU l = S at *
  have HS := Lib.hid hS
  clear hS
  go_enter Tryd.func75, Tryd.ntmps75
  go_wp2_with fail
  go_loopw [3] (fun cv wr => ∃ pos cc, cv = .int .i64 (cc : Nat) ∧ cc < 6 ∧ (pos = 0 ∨ l.isEmpty = false) ∧ wr.heap[w.heap.size]? = some (.stringIter S pos) ∧ Below w.heap.size w wr ∧ Hid (clsL cc (l.drop pos) = clsL 2 l)) (fun _ wr => S.size - wr.iterPos w.heap.size)
  case atStart => exact ⟨0, 2, rfl, by decide, .inl rfl, World.iter_heap _ _ _, (Below.refl _ _).alloc (Nat.le_refl _) _, rfl⟩
  case round =>
    obtain ⟨pos, cc, rfl, hcc, hpe, hit, hbw, hr⟩ := hrel
    have hsz : w.heap.size < wr.heap.size := (Array.getElem?_eq_some_iff.1 hit).1
    by_cases hp : pos < S.size
    · have hnx : ∀ ty, (Instr.next (.pointer (some ⟨w.heap.size, 0, none⟩)) true ty).run Tryd.prog wr = _ := fun ty => Lib.run_next_any_at wr w.heap.size S pos ty hit hp
      have hwd := width_pos S pos hp
      have hst := hr.out
      have hne : l.drop pos ≠ [] := by
        intro h
        have := congrArg List.length h
        rw [List.length_drop] at this
        have := HZ.out
        simp at *; omega
      rw [clsL_step _ _ hne, List.drop_drop, HD.out pos] at hst
      have HST := Lib.hid hst
      have HIT := Lib.hid hit
      generalize hw2 : wr.iterAt w.heap.size S (pos + (Utf8.decode S pos).2) = w2 at hnx
      have hit2 : w2.heap[w.heap.size]? = some (.stringIter S (pos + (Utf8.decode S pos).2)) := by rw [← hw2]; exact Lib.iterAt_heap wr w.heap.size S pos _ hit
      have hbw2 : Below w.heap.size w w2 := by rw [← hw2]; exact Lib.below_iterAt hbw (by omega) S _
      have hsz2 : w2.heap.size = wr.heap.size := by rw [← hw2, Lib.iterAt_size]
      clear hw2 hit hbw hst hne hr
      have HC := Lib.hid (HI.out cc (Utf8.decode S pos).1 w2 hcc hbw2)
      have hle : l.isEmpty = false := by
        cases hq : l with
        | nil => have := HZ.out; rw [hq, List.length_nil] at this; omega
        | cons _ _ => rfl
      have HLE := Lib.hid hle
      clear hle hpe hcc
      generalize (Utf8.decode S pos).1 = r at *
      generalize (Utf8.decode S pos).2 = wd at *
      cases hb : isR (rng cc) r with
      | false =>
        rw [hb] at HC HST
        go_wp2_with fail
        (with_reducible refine HC.out.mono ?_)
        rintro e w3 ⟨rfl, hb3⟩
        go_wp2_with fail
        go_ret
        exact ⟨ret_bool (by rw [HE.out, ← HST.out]; simp), hbw2.trans (hb3.mono hbw2.size)⟩
      | true =>
        rw [hb] at HC HST
        go_wp2_with fail
        (with_reducible refine HC.out.mono ?_)
        rintro e w3 ⟨rfl, hb3⟩
        have hit3 := (hb3.block w.heap.size (by omega)).trans hit2
        go_wp2_with fail
        go_roundw
        case rel => exact ⟨pos + wd, 3, rfl, by decide, .inr HLE.out, hit3, hbw2.trans (hb3.mono hbw2.size), by have := HST.out; rw [Bool.true_and] at this; exact this⟩
        case measure =>
          have e1 : w3.iterPos w.heap.size = pos + wd := by unfold World.iterPos; rw [hit3]
          have e2 : wr.iterPos w.heap.size = pos := by unfold World.iterPos; rw [HIT.out]
          rw [e1, e2]
          omega
    · have hnx : ∀ ty, (Instr.next (.pointer (some ⟨w.heap.size, 0, none⟩)) true ty).run Tryd.prog wr = _ := fun ty => Lib.run_next_end_at wr w.heap.size S pos ty hit hp
      have hst := hr.out
      rw [List.drop_of_length_le (by have := HZ.out; omega)] at hst
      have HST := Lib.hid hst
      clear hst hr
      clear hpe hcc
      cases hq : l.isEmpty with
      | true =>
        rw [hq] at hse HE
        have HE2 := HE
        clear hq
        go_wp2_with fail
        go_ret
        exact ⟨ret_bool (by rw [HE2.out]; rfl), hbw⟩
      | false =>
        rw [hq] at hse HE
        have HE2 := HE
        clear hq
        go_wp2_with fail
        (with_reducible refine (HV.out _ hbw).mono ?_)
        rintro e w3 ⟨rfl, hb3⟩
        go_wp2_with fail
        go_ret
        exact ⟨ret_bool (by rw [HE2.out, ← HST.out]; simp [clsL_nil]), hbw.trans (hb3.mono hbw.size)⟩
end Go.Proofs.YtekoflcioooncaaDoor
