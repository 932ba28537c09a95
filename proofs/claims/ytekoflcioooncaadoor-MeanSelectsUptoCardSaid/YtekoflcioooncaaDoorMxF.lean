/-
  The plain law of the nodes of a document's events: where each begins and ends.
-/
import Derived.Test.YtekoflcioooncaaDoorMxE
import Derived.Test.YtekoflcioooncaaDoorMxA
import Derived.RangeFuncNested
import Derived.RangeFuncBox
import Derived.RangeFuncLeaves
import Derived.Maps.AppendAt
import Derived.Deep.Upon
namespace Go.Proofs.YtekoflcioooncaaDoor
open Go.RowKit

structure Nd where
  pos : Nat
  par : Int
  last : Int
  fin : Nat
def ndNext (s : BegS) (nds : List Nd) (e : Ev) : List Nd :=
  if e.kind = 2 then nds.modify e.num.toNat (fun x => ⟨x.pos, x.par, (nds.length : Int) - 1, s.cnt + 1⟩)
  else nds ++ [⟨s.cnt, (s.opn.head?.map (·.1)).getD (-1), e.num, s.cnt + 1⟩]
def ndAll : BegS → List Nd → List Ev → List Nd
  | _, nds, [] => nds
  | s, nds, e :: l => ndAll (begNext s e) (ndNext s nds e) l
def nodesB (l : List Ev) : List Nd := ndAll beg0 [] l

structure NdInv (pre : List Ev) (s : BegS) (nds : List Nd) : Prop where
  cnt : s.cnt = pre.length
  nxt : s.next = (nds.length : Int)
  opn : ∀ x ∈ s.opn, 0 ≤ x.1 ∧ x.1 < s.next
  srt : s.opn.Pairwise (fun a b => b.1 < a.1)
  here : ∀ (n : Nat) (x : Nd), nds[n]? = some x → ∃ e, pre[x.pos]? = some e ∧ e.kind ≠ 2 ∧ e.num = (n : Int)
  beg : ∀ (j : Nat) (e : Ev), pre[j]? = some e → e.kind ≠ 2 → 0 ≤ e.num ∧ ∃ x, nds[e.num.toNat]? = some x ∧ x.pos = j
  fin : ∀ (j : Nat) (e : Ev), pre[j]? = some e → e.kind ≠ 0 → 0 ≤ e.num ∧ (∀ x ∈ s.opn, x.1 ≠ e.num) ∧ ∃ x, nds[e.num.toNat]? = some x ∧ x.fin = j + 1
  rng : ∀ (n : Nat) (x : Nd), nds[n]? = some x → x.pos < x.fin ∧ x.fin ≤ pre.length
theorem NdInv.start : NdInv [] beg0 [] :=
  ⟨rfl, rfl, fun x h => (by cases h), List.Pairwise.nil, fun n x h => (by cases h), fun j e h => (by cases h), fun j e h => (by cases h), fun n x h => (by cases h)⟩
theorem snoc_get {α : Type} {l : List α} {x y : α} {j : Nat} (h : (l ++ [x])[j]? = some y) : (j < l.length ∧ l[j]? = some y) ∨ (j = l.length ∧ y = x) := by
  rcases Nat.lt_trichotomy j l.length with h1 | h1 | h1
  · rw [List.getElem?_append_left h1] at h; exact .inl ⟨h1, h⟩
  · subst h1; simp at h; exact .inr ⟨rfl, h.symm⟩
  · rw [List.getElem?_append_right (by omega)] at h
    have : ([x] : List α)[j - l.length]? = none := List.getElem?_eq_none (by simp; omega)
    rw [this] at h; cases h
theorem get_lt {α : Type} {l : List α} {y : α} {j : Nat} (h : l[j]? = some y) : j < l.length := (List.getElem?_eq_some_iff.1 h).1
theorem get_snoc {α : Type} {l : List α} {x y : α} {j : Nat} (h : l[j]? = some y) : (l ++ [x])[j]? = some y := by rw [List.getElem?_append_left (get_lt h)]; exact h
theorem get_last {α : Type} (l : List α) (x : α) : (l ++ [x])[l.length]? = some x := by simp
theorem begOk_new {s : BegS} {e : Ev} (h : begOk s e = true) (hk : e.kind ≠ 2) : e.num = s.next ∧ (e.kind = 0 ∨ e.kind = 1) := by
  unfold begOk at h
  by_cases h0 : e.kind = 0
  · rw [if_pos h0] at h
    simp only [Bool.and_eq_true, decide_eq_true_eq] at h
    exact ⟨h.1.1.2.1, .inl h0⟩
  · by_cases h1 : e.kind = 1
    · rw [if_neg h0, if_pos h1] at h
      simp only [Bool.and_eq_true, decide_eq_true_eq] at h
      exact ⟨h.1.1.2.1, .inr h1⟩
    · rw [if_neg h0, if_neg h1, if_neg hk] at h
      cases h
theorem begOk_close {s : BegS} {e : Ev} (h : begOk s e = true) (hk : e.kind = 2) : s.opn.head? = some (e.num, e.dep, e.name) := by
  unfold begOk at h
  rw [if_neg (by omega), if_neg (by omega), if_pos hk] at h
  simp only [decide_eq_true_eq] at h
  exact h.2.2
theorem NdInv.step {pre : List Ev} {s : BegS} {nds : List Nd} {e : Ev} (h : NdInv pre s nds) (he : begOk s e = true) : NdInv (pre ++ [e]) (begNext s e) (ndNext s nds e) := by
  obtain ⟨h1, h2, h3, h4, h5, h6, h7, h8⟩ := h
  by_cases hk : e.kind = 2
  · have hh := begOk_close he hk
    obtain ⟨rest, hr⟩ : ∃ rest, s.opn = (e.num, e.dep, e.name) :: rest := by
      cases ho : s.opn with
      | nil => rw [ho] at hh; cases hh
      | cons a r => rw [ho] at hh; simp at hh; exact ⟨r, by rw [hh]⟩
    have hnum := h3 _ (by rw [hr]; exact List.mem_cons_self)
    simp only at hnum
    have hm : ∀ (n : Nat) (x : Nd), (ndNext s nds e)[n]? = some x → ∃ y, nds[n]? = some y ∧ x.pos = y.pos ∧ (x.fin = s.cnt + 1 ∨ x.fin = y.fin) := by
      intro n x hx
      unfold ndNext at hx
      rw [if_pos hk, List.getElem?_modify] at hx
      cases hy : nds[n]? with
      | none => rw [hy] at hx; simp at hx
      | some y =>
        rw [hy] at hx
        by_cases hn : e.num.toNat = n
        · simp [hn] at hx; subst hx; exact ⟨y, rfl, rfl, .inl rfl⟩
        · simp [hn] at hx; subst hx; exact ⟨y, rfl, rfl, .inr rfl⟩
    have hm2 : ∀ (n : Nat) (y : Nd), nds[n]? = some y → ∃ x, (ndNext s nds e)[n]? = some x ∧ x.pos = y.pos ∧ (n ≠ e.num.toNat → x.fin = y.fin) ∧ (n = e.num.toNat → x.fin = s.cnt + 1) := by
      intro n y hy
      unfold ndNext
      rw [if_pos hk, List.getElem?_modify, hy]
      by_cases hn : e.num.toNat = n
      · exact ⟨⟨y.pos, y.par, (nds.length : Int) - 1, s.cnt + 1⟩, by simp [hn], rfl, fun h => absurd hn.symm h, fun _ => rfl⟩
      · exact ⟨y, by simp [hn], rfl, fun _ => rfl, fun h => absurd h.symm hn⟩
    have hlen : (ndNext s nds e).length = nds.length := by unfold ndNext; rw [if_pos hk, List.length_modify]
    have hnx : (begNext s e).next = s.next := by unfold begNext; simp [hk]
    have hop : (begNext s e).opn = rest := by unfold begNext; simp [hk, hr]
    rw [hr] at h4
    have hp := List.pairwise_cons.1 h4
    refine ⟨by simp [begNext, h1], by rw [hnx, hlen]; exact h2, ?_, by rw [hop]; exact hp.2, ?_, ?_, ?_, ?_⟩
    · intro x hx
      rw [hop] at hx
      rw [hnx]
      exact h3 x (by rw [hr]; exact List.mem_cons_of_mem _ hx)
    · intro n x hx
      obtain ⟨y, hy, hp, _⟩ := hm n x hx
      obtain ⟨e', h', h''⟩ := h5 n y hy
      exact ⟨e', by rw [hp]; exact get_snoc h', h''⟩
    · intro j e' hj hk'
      rcases snoc_get hj with ⟨_, hj⟩ | ⟨_, rfl⟩
      · obtain ⟨ha, y, hy, hp⟩ := h6 j e' hj hk'
        obtain ⟨x, hx, hxp, _⟩ := hm2 _ y hy
        exact ⟨ha, x, hx, by rw [hxp, hp]⟩
      · exact absurd hk hk'
    · intro j e' hj hk'
      rcases snoc_get hj with ⟨_, hj⟩ | ⟨hjl, rfl⟩
      · obtain ⟨ha, hb, y, hy, hf⟩ := h7 j e' hj hk'
        obtain ⟨x, hx, _, hxf, _⟩ := hm2 _ y hy
        have hne := hb _ (by rw [hr]; exact List.mem_cons_self)
        simp only at hne
        exact ⟨ha, fun z hz => hb z (by rw [hr]; rw [hop] at hz; exact List.mem_cons_of_mem _ hz), x, hx, by rw [hxf (by omega), hf]⟩
      · have hlt : e'.num.toNat < nds.length := by omega
        obtain ⟨x, hx, _, _, hxf⟩ := hm2 _ _ (List.getElem?_eq_getElem hlt)
        refine ⟨hnum.1, fun z hz => ?_, x, hx, by rw [hxf rfl, h1, hjl]⟩
        rw [hop] at hz
        have := hp.1 z hz
        simp only at this
        omega
    · intro n x hx
      obtain ⟨y, hy, hp, hf⟩ := hm n x hx
      have := h8 n y hy
      rw [List.length_append, List.length_singleton]
      rcases hf with hf | hf <;> rw [hf, hp] <;> omega
  · obtain ⟨hn, hk01⟩ := begOk_new he hk
    have hnd : ndNext s nds e = nds ++ [⟨s.cnt, (s.opn.head?.map (·.1)).getD (-1), e.num, s.cnt + 1⟩] := by unfold ndNext; rw [if_neg hk]
    rw [hnd]
    have hnx : (begNext s e).next = s.next + 1 := by unfold begNext; simp [hk]
    have hen : e.num.toNat = nds.length := by omega
    have hop : ∀ x ∈ (begNext s e).opn, x ∈ s.opn ∨ (e.kind = 0 ∧ x.1 = e.num) := by
      intro x hx
      unfold begNext at hx
      simp only [hk, if_false] at hx
      by_cases h0 : e.kind = 0
      · rw [if_pos h0] at hx
        rcases List.mem_cons.1 hx with rfl | hx
        · exact .inr ⟨h0, rfl⟩
        · exact .inl hx
      · rw [if_neg h0] at hx; exact .inl hx
    refine ⟨by simp [begNext, h1], by rw [hnx, h2]; simp, ?_, ?_, ?_, ?_, ?_, ?_⟩
    · intro x hx
      rw [hnx]
      rcases hop x hx with h | ⟨_, h⟩
      · have := h3 x h; omega
      · omega
    · unfold begNext
      simp only [hk, if_false]
      by_cases h0 : e.kind = 0
      · rw [if_pos h0]
        exact List.pairwise_cons.2 ⟨fun z hz => by have := h3 z hz; simp only; omega, h4⟩
      · rw [if_neg h0]; exact h4
    · intro n x hx
      rcases snoc_get hx with ⟨_, hx⟩ | ⟨hn', rfl⟩
      · obtain ⟨e', h', h''⟩ := h5 n x hx
        exact ⟨e', get_snoc h', h''⟩
      · exact ⟨e, by simp only [h1]; exact get_last _ _, hk, by omega⟩
    · intro j e' hj hk'
      rcases snoc_get hj with ⟨_, hj⟩ | ⟨hjl, rfl⟩
      · obtain ⟨ha, y, hy, hp⟩ := h6 j e' hj hk'
        exact ⟨ha, y, get_snoc hy, hp⟩
      · exact ⟨by omega, _, by rw [hen]; exact get_last _ _, by simp only; omega⟩
    · intro j e' hj hk'
      rcases snoc_get hj with ⟨_, hj⟩ | ⟨hjl, rfl⟩
      · obtain ⟨ha, hb, y, hy, hf⟩ := h7 j e' hj hk'
        refine ⟨ha, fun z hz => ?_, y, get_snoc hy, hf⟩
        rcases hop z hz with h | ⟨_, h⟩
        · exact hb z h
        · have := get_lt hy; omega
      · refine ⟨by omega, fun z hz => ?_, _, by rw [hen]; exact get_last _ _, by simp only; omega⟩
        rcases hop z hz with h | ⟨h, _⟩
        · have := h3 z h; omega
        · exact absurd h hk'
    · intro n x hx
      rw [List.length_append, List.length_singleton]
      rcases snoc_get hx with ⟨_, hx⟩ | ⟨_, rfl⟩
      · have := h8 n x hx; omega
      · simp only; omega
theorem NdInv.all {pre : List Ev} {s : BegS} {nds : List Nd} (h : NdInv pre s nds) : ∀ (l : List Ev) {t : BegS}, begAll s l = some t → NdInv (pre ++ l) t (ndAll s nds l) := by
  intro l
  induction l generalizing pre s nds with
  | nil => intro t ht; simp only [begAll, Option.some.injEq] at ht; subst ht; simpa [ndAll] using h
  | cons e l ih =>
    intro t ht
    unfold begAll at ht
    split at ht
    · rename_i he
      have := ih (h.step he) ht
      simpa [ndAll] using this
    · cases ht
theorem nodesB_inv {l : List Ev} {t : BegS} (h : begAll beg0 l = some t) : NdInv l t (nodesB l) := by
  have := NdInv.start.all l h
  unfold nodesB
  simpa using this
theorem ndAll_snoc (s : BegS) (nds : List Nd) (l : List Ev) (e : Ev) {t : BegS} (h : begAll s l = some t) : ndAll s nds (l ++ [e]) = ndNext t (ndAll s nds l) e := by
  induction l generalizing s nds with
  | nil => simp only [begAll, Option.some.injEq] at h; subst h; rfl
  | cons x l ih =>
    unfold begAll at h
    split at h
    · exact ih _ _ h
    · cases h
theorem begAll_take {s t : BegS} {l : List Ev} (h : begAll s l = some t) (i : Nat) : ∃ u, begAll s (l.take i) = some u := by
  have h2 := h
  rw [← List.take_append_drop i l, begAll_app] at h2
  cases h3 : begAll s (l.take i) with
  | none => rw [h3] at h2; cases h2
  | some u => exact ⟨u, rfl⟩
theorem begAll_at {s t : BegS} {l : List Ev} (h : begAll s l = some t) (i : Nat) (hi : i < l.length) {u : BegS} (hu : begAll s (l.take i) = some u) : begOk u l[i] = true ∧ begAll s (l.take (i + 1)) = some (begNext u l[i]) := by
  have h2 := h
  rw [← List.take_append_drop i l, begAll_app, hu, List.drop_eq_getElem_cons hi] at h2
  simp only [Option.bind_some, begAll] at h2
  split at h2
  · rename_i hok
    refine ⟨hok, ?_⟩
    rw [List.take_succ_eq_append_getElem hi, begAll_snoc, hu]
    simp [hok]
  · cases h2
theorem nodesB_pos {l : List Ev} {t : BegS} (h : begAll beg0 l = some t) (i n : Nat) (x : Nd) (hx : (nodesB (l.take i))[n]? = some x) : ∃ y, (nodesB l)[n]? = some y ∧ y.pos = x.pos := by
  obtain ⟨u, hu⟩ := begAll_take h i
  obtain ⟨e, he, hk, hn⟩ := (nodesB_inv hu).here n x hx
  have he2 : l[x.pos]? = some e := by
    rw [List.getElem?_take] at he
    split at he
    · exact he
    · cases he
  obtain ⟨_, y, hy, hp⟩ := (nodesB_inv h).beg x.pos e he2 hk
  rw [hn, Int.toNat_natCast] at hy
  exact ⟨y, hy, hp⟩
end Go.Proofs.YtekoflcioooncaaDoor

namespace Go.Proofs.YtekoflcioooncaaDoor
open Go.RowKit

def NdLast (nds : List Nd) : Prop := ∀ (n : Nat) (x : Nd), nds[n]? = some x → (n : Int) ≤ x.last ∧ x.last < nds.length
theorem NdLast.step {pre : List Ev} {s : BegS} {nds : List Nd} {e : Ev} (hi : NdInv pre s nds) (h : NdLast nds) (he : begOk s e = true) : NdLast (ndNext s nds e) := by
  intro n x hx
  by_cases hk : e.kind = 2
  · have hh := begOk_close he hk
    obtain ⟨rest, hr⟩ : ∃ rest, s.opn = (e.num, e.dep, e.name) :: rest := by
      cases ho : s.opn with
      | nil => rw [ho] at hh; cases hh
      | cons a r => rw [ho] at hh; simp at hh; exact ⟨r, by rw [hh]⟩
    have hnum := hi.opn _ (by rw [hr]; exact List.mem_cons_self)
    simp only at hnum
    have hnx := hi.nxt
    have hlen : (ndNext s nds e).length = nds.length := by unfold ndNext; rw [if_pos hk, List.length_modify]
    rw [hlen]
    unfold ndNext at hx
    rw [if_pos hk, List.getElem?_modify] at hx
    cases hy : nds[n]? with
    | none => rw [hy] at hx; simp at hx
    | some y =>
      rw [hy] at hx
      have hnl := get_lt hy
      by_cases hn : e.num.toNat = n
      · simp [hn] at hx
        subst hx
        simp only
        omega
      · simp [hn] at hx
        subst hx
        exact h n y hy
  · have hnum := (begOk_new he hk).1
    have hnx := hi.nxt
    unfold ndNext at hx ⊢
    rw [if_neg hk] at hx ⊢
    rw [List.length_append]
    rcases snoc_get hx with ⟨_, hx⟩ | ⟨rfl, rfl⟩
    · have := h n x hx
      simp
      omega
    · simp
      omega
theorem NdLast.all {pre : List Ev} {s : BegS} {nds : List Nd} (hi : NdInv pre s nds) (h : NdLast nds) : ∀ (l : List Ev) {t : BegS}, begAll s l = some t → NdLast (ndAll s nds l) := by
  intro l
  induction l generalizing pre s nds with
  | nil => intro t _; exact h
  | cons e l ih =>
    intro t ht
    unfold begAll at ht
    split at ht
    · rename_i he
      exact ih (hi.step he) (h.step hi he) ht
    · cases ht
theorem nodesB_last {l : List Ev} {t : BegS} (h : begAll beg0 l = some t) : NdLast (nodesB l) :=
  NdLast.all NdInv.start (fun n x hx => by simp at hx) l h
def lastN (evs : List Ev) (i : Nat) : Nat := ((nodesB evs)[i]?.map (·.last.toNat)).getD 0
theorem lastN_rng {l : List Ev} {t : BegS} (h : begAll beg0 l = some t) : ∀ i, i < (nodesB l).length → i ≤ lastN l i ∧ lastN l i < (nodesB l).length := by
  intro i hi
  have := nodesB_last h i _ (List.getElem?_eq_getElem hi)
  unfold lastN
  rw [List.getElem?_eq_getElem hi]
  simp only [Option.map_some, Option.getD_some]
  omega
theorem lastN_at {l : List Ev} {t : BegS} (h : begAll beg0 l = some t) {i : Nat} {x : Nd} (hx : (nodesB l)[i]? = some x) : ((lastN l i : Nat) : Int) = x.last := by
  have := nodesB_last h i x hx
  unfold lastN
  rw [hx]
  simp only [Option.map_some, Option.getD_some]
  omega
def ndTxt (evs : List Ev) (i : Nat) : List UInt8 := (((nodesB evs)[i]?.bind fun x => evs[x.pos]?).map (·.text)).getD []
theorem wholeB_some {l : List Ev} (h : wholeB l = true) : ∃ t, begAll beg0 l = some t ∧ l ≠ [] ∧ t.opn = [] := by
  unfold wholeB at h
  cases hst : begAll beg0 l with
  | none => rw [hst] at h; cases h
  | some st => rw [hst] at h; simp only [decide_eq_true_eq] at h; exact ⟨st, rfl, h⟩
theorem wholeB_pos {l : List Ev} (h : wholeB l = true) : 0 < (nodesB l).length := by
  obtain ⟨t, ht, hne, _⟩ := wholeB_some h
  have hinv := nodesB_inv ht
  obtain ⟨e, l', rfl⟩ := List.exists_cons_of_ne_nil hne
  have h0 : begOk beg0 e = true := by
    unfold begAll at ht
    split at ht
    · assumption
    · cases ht
  have hk : e.kind ≠ 2 := by
    intro hk
    have := begOk_close h0 hk
    simp [beg0] at this
  obtain ⟨_, x, hx, _⟩ := hinv.beg 0 e rfl hk
  have := get_lt hx
  omega
end Go.Proofs.YtekoflcioooncaaDoor

namespace Go.Proofs.YtekoflcioooncaaDoor
open Go.RowKit

structure KpX (X : Nat → Prop) (D : Nat) (A B : World) : Prop where
  os : B.os = A.os
  tape : B.tape = A.tape
  output : B.output = A.output
  size : A.heap.size ≤ B.heap.size
  block : ∀ k, k < D → ¬ X k → B.heap[k]? = A.heap[k]?
theorem KpX.refl (X : Nat → Prop) (D : Nat) (A : World) : KpX X D A A := ⟨rfl, rfl, rfl, Nat.le_refl _, fun _ _ _ => rfl⟩
theorem KpX.trans {X : Nat → Prop} {D : Nat} {A B C : World} (h : KpX X D A B) (k : KpX X D B C) : KpX X D A C :=
  ⟨k.os.trans h.os, k.tape.trans h.tape, k.output.trans h.output, Nat.le_trans h.size k.size, fun i h1 h2 => (k.block i h1 h2).trans (h.block i h1 h2)⟩
theorem KpX.weak {X Y : Nat → Prop} {D E : Nat} {A B : World} (h : KpX X D A B) (hE : E ≤ D) (hX : ∀ k, k < E → X k → Y k) : KpX Y E A B :=
  ⟨h.os, h.tape, h.output, h.size, fun i h1 h2 => h.block i (by omega) (fun hx => h2 (hX i h1 hx))⟩
theorem KpX.of_below {X : Nat → Prop} {D : Nat} {A B : World} (h : Below D A B) : KpX X D A B := ⟨h.os, h.tape, h.output, h.size, fun i h1 _ => h.block i h1⟩
theorem KpX.below {X : Nat → Prop} {D E : Nat} {A B : World} (h : KpX X D A B) (hE : E ≤ D) (hX : ∀ k, k < E → ¬ X k) : Below E A B := ⟨h.os, h.tape, h.output, h.size, fun i h1 => h.block i (by omega) (hX i h1)⟩
theorem KpX.set {X : Nat → Prop} {D : Nat} {A B : World} (h : KpX X D A B) {b : Nat} (hb : X b) (j : Nat) (u : Value) : KpX X D A (B.setCell ⟨b, j, none⟩ u) :=
  ⟨h.os, h.tape, h.output, by simp [World.setCell]; exact h.size, fun k h1 h2 => (Below.heap_setCell _ _ _ _ (fun e => by have e' : k = b := e; subst e'; exact h2 hb)).trans (h.block k h1 h2)⟩
theorem KpX.grown {X : Nat → Prop} {D : Nat} {A B C : World} {row : Option Nat} (h : KpX X D A B) (hg : B.grownBy C row) (hD : D ≤ B.heap.size) (hr : ∀ k, row = some k → D ≤ k ∨ X k) : KpX X D A C :=
  ⟨hg.os.trans h.os, hg.tape.trans h.tape, hg.output.trans h.output, Nat.le_trans h.size hg.size, fun k h1 h2 => (hg.block k (by omega) (fun e => by rcases hr k e.symm with h3 | h3; omega; exact h2 h3)).trans (h.block k h1 h2)⟩
theorem KpX.alloc {X : Nat → Prop} {D : Nat} {A B : World} (h : KpX X D A B) (hD : D ≤ B.heap.size) (o : Obj) : KpX X D A (B.alloc o) :=
  h.grown (World.grownBy_alloc B o none) hD (fun k e => by cases e)
theorem kpX_b {X : Nat → Prop} {D : Nat} {w : World} (hn : D ≤ w.heap.size) (W : World) (l : Nat) (o o' : Obj) (hl : w.heap.size ≤ l) (h : W.heap[l]? = some o) (_ : o.isCells = false) (_ : o.isWalk = false) : KpX X D W (W.putObj l o') :=
  (KpX.refl X D W).grown (grownBy_putObj' W l o') (by have := (Array.getElem?_eq_some_iff.1 h).1; omega) (fun k e => by cases e; exact .inl (by omega))
theorem ownFrom_kpX {β : Type} {X : Nat → Prop} {D B : Nat} {w₀ : World} (hn : D ≤ w₀.heap.size) (hB : D ≤ B) : OwnFrom B (fun (_ : β) W => KpX X D w₀ W) :=
  fun _ _ _ _ hs hg hr => hs.grown hg (Nat.le_trans hn hs.size) (fun k e => .inl (Nat.le_trans hB (hr k e).1))
theorem boxApp {X : Nat → Prop} {W w1 : World} {D B : Nat} {t e : TypeId} {size : Nat} {v v' : Value} {k m : Nat} {xs ys : List Value} {tmp : Obj}
    (hv : Boxed W B t v) (hrow : W.ownsRow D e size v k xs) (hBD : B < D) (hX : X B) (hD : D ≤ W.heap.size) (hown' : w1.ownsRow D e size v' m ys) (hgrow : (W.alloc tmp).grownBy w1 v.ownBlock) :
    Boxed w1 B t v ∧ Boxed (w1.setCell ⟨B, 0, none⟩ v') B t v' ∧ (w1.setCell ⟨B, 0, none⟩ v').ownsRow D e size v' m ys ∧ KeepsOthers W (w1.setCell ⟨B, 0, none⟩ v') ∧ KpX X D W (w1.setCell ⟨B, 0, none⟩ v') := by
  have hne : some B ≠ v.ownBlock := fun e => by have := (hrow.lt B e.symm).1; omega
  have hne' : v'.ownBlock ≠ some B := fun e => by have := (hown'.lt B e).1; omega
  have hv1 : Boxed w1 B t v := (hv.alloc tmp).kept hgrow hne
  refine ⟨hv1, hv1.set v', hown'.kept (grownBy_setCell' w1 B v') (.inr hne'), ?_, ?_⟩
  · refine ((KeepsOthers.alloc W tmp).trans (KeepsOthers.of_grownBy hgrow fun j o ej hj => ?_)).trans (KeepsOthers.setCell _ _ _)
    rcases (hrow.alloc tmp).2 with ⟨rfl, _⟩ | ⟨g, cap, cur, rfl, _, hgb, _⟩
    · simp [Value.ownBlock] at ej
    · obtain rfl : g = j := by simpa [Value.ownBlock] using ej
      rw [hgb] at hj; cases hj; rfl
  · refine (((KpX.refl X D W).alloc hD tmp).grown hgrow (by simp; omega) (fun k e => ?_)).set hX _ _
    exact .inl (hrow.lt k e).1
end Go.Proofs.YtekoflcioooncaaDoor

namespace Go.Proofs.YtekoflcioooncaaDoor
open Go.RowKit

theorem own_slice {w : World} {base : Nat} {e : TypeId} {size : Nat} {v : Value} {n : Nat} {xs : List Value} (h : w.ownsRow base e size v n xs) :
    ∃ a c, v = .slice a n c ∧ n ≤ c ∧ (a = none → n = 0) ∧ ∀ ad, a = some ad → ∃ g, ad = ⟨g, 0, none⟩ ∧ base ≤ g ∧ g < w.heap.size ∧ w.frozen? ⟨g, 0, none⟩ = false ∧ ∀ j u, xs[j]? = some u → w.cell? ⟨g, j, none⟩ = some u := by
  have hc := fun g hg => h.cells (g := g) hg
  have hl := h.lt
  have h0 := h
  obtain ⟨h1, h2⟩ := h
  rcases h2 with ⟨rfl, rfl⟩ | ⟨g, cap, cur, rfl, hg, hh, h5, r⟩
  · exact ⟨none, 0, rfl, Nat.le_refl _, fun _ => rfl, fun ad h => by cases h⟩
  · refine ⟨_, cap, rfl, h5, fun h => (by cases h), fun ad he => ⟨g, (by cases he; rfl), hg, (hl g rfl).2, frozen_heap hh, fun j u hj => ?_⟩⟩
    have := hc g rfl j u hj
    unfold Addr.add at this
    split at this
    · rename_i h; subst h; exact this
    · simpa using this
theorem own_some {w : World} {base : Nat} {e : TypeId} {size : Nat} {v : Value} {n : Nat} {xs : List Value} (h : w.ownsRow base e size v (n + 1) xs) :
    ∃ g c, v = .slice (some ⟨g, 0, none⟩) (n + 1) c ∧ n + 1 ≤ c ∧ base ≤ g ∧ g < w.heap.size ∧ w.frozen? ⟨g, 0, none⟩ = false ∧ ∀ j u, xs[j]? = some u → w.cell? ⟨g, j, none⟩ = some u := by
  obtain ⟨a, c, rfl, h1, h2, h3⟩ := own_slice h
  cases a with
  | none => have := h2 rfl; omega
  | some ad =>
    obtain ⟨g, rfl, h4⟩ := h3 _ rfl
    exact ⟨g, c, rfl, h1, h4⟩
theorem own_pop {w : World} {base : Nat} {e : TypeId} {size : Nat} {g c n : Nat} {xs ys : List Value} (h : w.ownsRow base e size (.slice (some ⟨g, 0, none⟩) (n + 1) c) (n + 1) (xs ++ ys)) (hx : xs.length = n * size) :
    w.ownsRow base e size (.slice (some ⟨g, 0, none⟩) n c) n xs := by
  obtain ⟨h1, h2⟩ := h
  rcases h2 with ⟨h0, _⟩ | ⟨g', cap', cur, hv, hg, hh, hn, hcap, hsz, htake⟩
  · cases h0
  · cases hv
    refine ⟨hx, .inr ⟨g, c, cur, rfl, hg, hh, by omega, hcap, hsz, ?_⟩⟩
    have h3 : (cur.toList.take ((n + 1) * size)).take (n * size) = (xs ++ ys).take (n * size) := by rw [htake]
    rw [List.take_take, Nat.min_eq_left (Nat.mul_le_mul_right _ (by omega))] at h3
    rw [h3, ← hx, List.take_left']
    rfl
theorem wpList_app_row {P : Program} (w : World) {ops : Array Oper} {rest : List Oper} {o : Oper} {a : Act} {Q : Exit → Act → World → Prop} (hgd : o.guard = none) (s x : Operand) (t : TypeId)
    (ho : o.op = .call { callee := .builtin .append, args := #[s, x], argTypes := #[t, t] })
    (base : Nat) (e : TypeId) (i : TypeInfo) (z : Value) (size bytes : Nat) (ht : P.underlying t = some (.slice e)) (hi : P.info? e = some i) (hz : i.zero = some z)
    (hsize : i.size = size) (hby : i.bytes = bytes) (hzs : z.cells.size = size) (hsz : 0 < size)
    (v : Value) (n : Nat) (xs : List Value) (hs : a.eval s = v) (hown : w.ownsRow base e size v n xs)
    (A : Option Addr) (m c : Nat) (news : List Value) (hx : a.eval x = .slice A m c) (hl : news.length = m * size) (hc : ∀ ad, A = some ad → ∀ j u, news[j]? = some u → w.cell? (ad.add j) = some u) (hA : A = none → m = 0) (h1 : ∀ u ∈ news, u.oneCell' = true)
    (hn : n + m ≤ 4294967296) (hbb : bytes ≤ 16384) (hbase : base ≤ w.heap.size)
    (h : ∀ v' w', w'.ownsRow base e size v' (n + m) (xs ++ news) → App w w' v v' → wpList P ops Q rest (a.put o.dst v') w') :
    wpList P ops Q (o :: rest) a w := by
  have hb : (n + m) * bytes ≤ 140737488355328 := Nat.le_trans (Nat.mul_le_mul hn hbb) (by decide)
  rcases A with _ | ad
  · have hm := hA rfl
    subst hm
    have hnews : news = [] := List.eq_nil_of_length_eq_zero (by omega)
    subst hnews
    obtain ⟨av, cv, rfl, hle, _, _⟩ := own_slice hown
    refine wpList_plain hgd fun K hK' => ?_
    have hrun := run_append_nothing (P := P) w t t o.type e i ht hi av n cv hle _ (Src.ofNil (P := P) (size := i.size) w ht c)
    unfold Oper.wp
    simp [execOp, ho, resolve, invoke, builtin, hs, hx, hrun, Result.andThen]
    exact hK' _ _ (h _ _ (by simpa using hown) ⟨⟨rfl, rfl, rfl, Nat.le_refl _, fun _ _ _ => rfl⟩, .inl rfl⟩)
  · refine wpList_append_own_at (P := P) w hgd s x t ho base e i z size bytes ht hi hz hsize hby hzs hsz v n xs hs hown ad m c news hx hl (hc ad rfl) h1 (by unfold maxLen; omega) hb hbase fun v' w' h2 h3 _ h5 => h v' w' h2 ⟨h3, ?_⟩
    rcases h5 with h5 | h5
    · exact .inl h5
    · exact .inr ⟨_, h5, Nat.le_refl _⟩
end Go.Proofs.YtekoflcioooncaaDoor

namespace Go.Proofs.YtekoflcioooncaaDoor
open Go.RowKit

def evL (e : Ev) (A : Option Addr) (m c : Nat) : List Value := (evC e.kind e.num e.dep e.name A m c e.text e.fr e.tt).toList
def wtEs (l : List Ev) : Nat := (l.map wtE).sum
theorem wtE_pos (e : Ev) : 1 ≤ wtE e := by unfold wtE; omega
theorem wtEs_length (l : List Ev) : l.length ≤ wtEs l := by
  induction l with
  | nil => simp [wtEs]
  | cons x r ih => have := wtE_pos x; simp only [wtEs, List.map_cons, List.sum_cons, List.length_cons] at *; omega
theorem wtEs_mem (l : List Ev) (i : Nat) (h : i < l.length) : wtE l[i] ≤ wtEs l := by
  induction l generalizing i with
  | nil => simp at h
  | cons x r ih =>
    simp only [wtEs, List.map_cons, List.sum_cons]
    rcases i with _ | i
    · simp only [List.getElem_cons_zero]; omega
    · have := ih i (by simpa using h); simp only [List.getElem_cons_succ]; simp only [wtEs] at this; omega
def EvsAt (w : World) (a : Option Addr) (n : Nat) (evs : List Ev) : Prop :=
  n = evs.length ∧ ∀ i, (h : i < evs.length) → ∃ b o A m c, a = some ⟨b, o, none⟩ ∧ b < w.heap.size ∧ m ≤ c ∧ AttrsAt w A m evs[i].ats ∧ ∀ j, j < 8 → w.cell? ⟨b, o + i * 8 + j, none⟩ = (evL evs[i] A m c)[j]?
theorem EvsAt.below {w w' : World} {a : Option Addr} {n : Nat} {evs : List Ev} (h : EvsAt w a n evs) (hb : Below w.heap.size w w') : EvsAt w' a n evs :=
  ⟨h.1, fun i hi => by
    obtain ⟨b, o, A, m, c, e, hlt, hmc, hA, hc⟩ := h.2 i hi
    exact ⟨b, o, A, m, c, e, Nat.lt_of_lt_of_le hlt hb.size, hmc, hA.below hb, fun j hj => (hb.cell (p := ⟨b, o + i * 8 + j, none⟩) hlt).trans (hc j hj)⟩⟩

section
variable {H : Type} {enc : TypeId × Value → H} {w : World} {base : Nat} {sp : Nat → Bool} {held : Bool} {fuel : Nat}
def evsOf : DataW H → List Ev
  | .slice l _ => l.map evOf
  | _ => []
theorem wtEs_le (l : List (DataW H)) (h : ∀ i, (hi : i < l.length) → wtE (evOf l[i]) ≤ Rows.uptoBulk l[i]) : wtEs (l.map evOf) ≤ Rows.uptoBulkAll l := by
  induction l with
  | nil => simp [wtEs, Rows.uptoBulkAll]
  | cons x r ih =>
    have h0 := h 0 (by simp)
    have := ih (fun i hi => by have := h (i + 1) (by simpa using hi); simpa using this)
    simp only [wtEs, List.map_cons, List.sum_cons, Rows.uptoBulkAll, List.getElem_cons_zero] at *
    omega
theorem evs_read {cs : List Value} {x : DataW H × List MemPlace} (h : DataW.trod enc Tryd.prog w base sp held fuel 22 cs = some x) :
    ∃ a n c, cs = [.slice a n c] ∧ n ≤ c ∧ EvsAt w a n (evsOf x.1) ∧ wtEs (evsOf x.1) ≤ Rows.uptoBulk x.1 := by
  obtain ⟨a, n, c, elems, rfl, hnc, hel, hx, hat⟩ := slice_read Tryd.underlying22 cellsEv (by decide) h
  have hw := wtEs_le (elems.map (·.1)) (fun i hi => by
    rw [List.length_map] at hi
    obtain ⟨_, _, m, ecs, _, _, _, _, hr⟩ := hat i hi
    rw [List.getElem_map]
    exact (event_read hr).2.1)
  have key : EvsAt w a n (elems.map fun e => evOf e.1) := by
    refine ⟨by rw [List.length_map, hel], fun i hi => ?_⟩
    rw [List.length_map] at hi
    obtain ⟨b, o, m, ecs, e, hb, _, hc, hr⟩ := hat i hi
    obtain ⟨⟨A, m', c', hcs, hmc, hA⟩, _⟩ := event_read hr
    rw [List.getElem_map]
    exact ⟨b, o, A, m', c', e, hb, hmc, hA, fun j hj => by rw [hc j hj, hcs]; rfl⟩
  refine ⟨a, n, c, rfl, hnc, ?_⟩
  rcases hx with rfl | ⟨rest, hx⟩
  · obtain rfl : n = 0 := by simpa using hel.symm
    rcases DataW.trod_slice Tryd.underlying22 h with ⟨_, hx⟩ | ⟨a2, len, cap, elems, rest, m, _, e, hx, _, _, _, hel2, _, _, _⟩
    · rw [hx]; exact ⟨⟨rfl, fun i hi => by simp [evsOf] at hi⟩, by simp [evsOf, wtEs]⟩
    · simp at e
      have : elems = [] := List.eq_nil_of_length_eq_zero (by omega)
      subst this
      rw [hx]; exact ⟨⟨rfl, fun i hi => by simp [evsOf] at hi⟩, by simp [evsOf, wtEs]⟩
  · rw [hx]
    simp only [evsOf, List.map_map] at hw ⊢
    refine ⟨key, ?_⟩
    simp only [Rows.uptoBulk]
    have e : (List.map (evOf ∘ fun x => x.1) elems) = elems.map fun e => evOf e.1 := rfl
    omega
end
end Go.Proofs.YtekoflcioooncaaDoor
