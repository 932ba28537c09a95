/-
  The plain law of the nodes of a document's events: where each begins and ends.
-/
import Derived.Test.YtklpihaelaagpaaDoorLgF
namespace Go.Proofs.YtklpihaelaagpaaDoor
open Go.RowKit

structure Nd where
  pos : Nat
  par : Int
  last : Int
  fin : Nat
def ndNext (s : BegS) (nds : List Nd) (e : Ev) : List Nd :=
  if e.kind = 2 then nds.modify e.num.toNat (fun x => ⟨x.pos, x.par, (nds.length : Int) - 1, s.cnt + 1⟩)
  else nds ++ [⟨s.cnt, (s.opn.head?.map (·.1)).getD (-1), e.num, s.cnt + 1⟩]
def ndAll : BegS → List Nd → List Ev → List Nd
  | _, nds, [] => nds
  | s, nds, e :: l => ndAll (begNext s e) (ndNext s nds e) l
def nodesB (l : List Ev) : List Nd := ndAll beg0 [] l

structure NdInv (pre : List Ev) (s : BegS) (nds : List Nd) : Prop where
  cnt : s.cnt = pre.length
  nxt : s.next = (nds.length : Int)
  opn : ∀ x ∈ s.opn, 0 ≤ x.1 ∧ x.1 < s.next
  srt : s.opn.Pairwise (fun a b => b.1 < a.1)
  here : ∀ (n : Nat) (x : Nd), nds[n]? = some x → ∃ e, pre[x.pos]? = some e ∧ e.kind ≠ 2 ∧ e.num = (n : Int)
  beg : ∀ (j : Nat) (e : Ev), pre[j]? = some e → e.kind ≠ 2 → 0 ≤ e.num ∧ ∃ x, nds[e.num.toNat]? = some x ∧ x.pos = j
  fin : ∀ (j : Nat) (e : Ev), pre[j]? = some e → e.kind ≠ 0 → 0 ≤ e.num ∧ (∀ x ∈ s.opn, x.1 ≠ e.num) ∧ ∃ x, nds[e.num.toNat]? = some x ∧ x.fin = j + 1
  rng : ∀ (n : Nat) (x : Nd), nds[n]? = some x → x.pos < x.fin ∧ x.fin ≤ pre.length
theorem NdInv.start : NdInv [] beg0 [] :=
  ⟨rfl, rfl, fun x h => (by cases h), List.Pairwise.nil, fun n x h => (by cases h), fun j e h => (by cases h), fun j e h => (by cases h), fun n x h => (by cases h)⟩
theorem snoc_get {α : Type} {l : List α} {x y : α} {j : Nat} (h : (l ++ [x])[j]? = some y) : (j < l.length ∧ l[j]? = some y) ∨ (j = l.length ∧ y = x) := by
  rcases Nat.lt_trichotomy j l.length with h1 | h1 | h1
  · rw [List.getElem?_append_left h1] at h; exact .inl ⟨h1, h⟩
  · subst h1; simp at h; exact .inr ⟨rfl, h.symm⟩
  · rw [List.getElem?_append_right (by omega)] at h
    have : ([x] : List α)[j - l.length]? = none := List.getElem?_eq_none (by simp; omega)
    rw [this] at h; cases h
theorem get_lt {α : Type} {l : List α} {y : α} {j : Nat} (h : l[j]? = some y) : j < l.length := (List.getElem?_eq_some_iff.1 h).1
theorem get_snoc {α : Type} {l : List α} {x y : α} {j : Nat} (h : l[j]? = some y) : (l ++ [x])[j]? = some y := by rw [List.getElem?_append_left (get_lt h)]; exact h
theorem get_last {α : Type} (l : List α) (x : α) : (l ++ [x])[l.length]? = some x := by simp
theorem begOk_new {s : BegS} {e : Ev} (h : begOk s e = true) (hk : e.kind ≠ 2) : e.num = s.next ∧ (e.kind = 0 ∨ e.kind = 1) := by
  unfold begOk at h
  by_cases h0 : e.kind = 0
  · rw [if_pos h0] at h
    simp only [Bool.and_eq_true, decide_eq_true_eq] at h
    exact ⟨h.1.1.2.1, .inl h0⟩
  · by_cases h1 : e.kind = 1
    · rw [if_neg h0, if_pos h1] at h
      simp only [Bool.and_eq_true, decide_eq_true_eq] at h
      exact ⟨h.1.1.2.1, .inr h1⟩
    · rw [if_neg h0, if_neg h1, if_neg hk] at h
      cases h
theorem begOk_close {s : BegS} {e : Ev} (h : begOk s e = true) (hk : e.kind = 2) : s.opn.head? = some (e.num, e.dep, e.name) := by
  unfold begOk at h
  rw [if_neg (by omega), if_neg (by omega), if_pos hk] at h
  simp only [decide_eq_true_eq] at h
  exact h.2.2
theorem NdInv.step {pre : List Ev} {s : BegS} {nds : List Nd} {e : Ev} (h : NdInv pre s nds) (he : begOk s e = true) : NdInv (pre ++ [e]) (begNext s e) (ndNext s nds e) := by
  obtain ⟨h1, h2, h3, h4, h5, h6, h7, h8⟩ := h
  by_cases hk : e.kind = 2
  · have hh := begOk_close he hk
    obtain ⟨rest, hr⟩ : ∃ rest, s.opn = (e.num, e.dep, e.name) :: rest := by
      cases ho : s.opn with
      | nil => rw [ho] at hh; cases hh
      | cons a r => rw [ho] at hh; simp at hh; exact ⟨r, by rw [hh]⟩
    have hnum := h3 _ (by rw [hr]; exact List.mem_cons_self)
    simp only at hnum
    have hm : ∀ (n : Nat) (x : Nd), (ndNext s nds e)[n]? = some x → ∃ y, nds[n]? = some y ∧ x.pos = y.pos ∧ (x.fin = s.cnt + 1 ∨ x.fin = y.fin) := by
      intro n x hx
      unfold ndNext at hx
      rw [if_pos hk, List.getElem?_modify] at hx
      cases hy : nds[n]? with
      | none => rw [hy] at hx; simp at hx
      | some y =>
        rw [hy] at hx
        by_cases hn : e.num.toNat = n
        · simp [hn] at hx; subst hx; exact ⟨y, rfl, rfl, .inl rfl⟩
        · simp [hn] at hx; subst hx; exact ⟨y, rfl, rfl, .inr rfl⟩
    have hm2 : ∀ (n : Nat) (y : Nd), nds[n]? = some y → ∃ x, (ndNext s nds e)[n]? = some x ∧ x.pos = y.pos ∧ (n ≠ e.num.toNat → x.fin = y.fin) ∧ (n = e.num.toNat → x.fin = s.cnt + 1) := by
      intro n y hy
      unfold ndNext
      rw [if_pos hk, List.getElem?_modify, hy]
      by_cases hn : e.num.toNat = n
      · exact ⟨⟨y.pos, y.par, (nds.length : Int) - 1, s.cnt + 1⟩, by simp [hn], rfl, fun h => absurd hn.symm h, fun _ => rfl⟩
      · exact ⟨y, by simp [hn], rfl, fun _ => rfl, fun h => absurd h.symm hn⟩
    have hlen : (ndNext s nds e).length = nds.length := by unfold ndNext; rw [if_pos hk, List.length_modify]
    have hnx : (begNext s e).next = s.next := by unfold begNext; simp [hk]
    have hop : (begNext s e).opn = rest := by unfold begNext; simp [hk, hr]
    rw [hr] at h4
    have hp := List.pairwise_cons.1 h4
    refine ⟨by simp [begNext, h1], by rw [hnx, hlen]; exact h2, ?_, by rw [hop]; exact hp.2, ?_, ?_, ?_, ?_⟩
    · intro x hx
      rw [hop] at hx
      rw [hnx]
      exact h3 x (by rw [hr]; exact List.mem_cons_of_mem _ hx)
    · intro n x hx
      obtain ⟨y, hy, hp, _⟩ := hm n x hx
      obtain ⟨e', h', h''⟩ := h5 n y hy
      exact ⟨e', by rw [hp]; exact get_snoc h', h''⟩
    · intro j e' hj hk'
      rcases snoc_get hj with ⟨_, hj⟩ | ⟨_, rfl⟩
      · obtain ⟨ha, y, hy, hp⟩ := h6 j e' hj hk'
        obtain ⟨x, hx, hxp, _⟩ := hm2 _ y hy
        exact ⟨ha, x, hx, by rw [hxp, hp]⟩
      · exact absurd hk hk'
    · intro j e' hj hk'
      rcases snoc_get hj with ⟨_, hj⟩ | ⟨hjl, rfl⟩
      · obtain ⟨ha, hb, y, hy, hf⟩ := h7 j e' hj hk'
        obtain ⟨x, hx, _, hxf, _⟩ := hm2 _ y hy
        have hne := hb _ (by rw [hr]; exact List.mem_cons_self)
        simp only at hne
        exact ⟨ha, fun z hz => hb z (by rw [hr]; rw [hop] at hz; exact List.mem_cons_of_mem _ hz), x, hx, by rw [hxf (by omega), hf]⟩
      · have hlt : e'.num.toNat < nds.length := by omega
        obtain ⟨x, hx, _, _, hxf⟩ := hm2 _ _ (List.getElem?_eq_getElem hlt)
        refine ⟨hnum.1, fun z hz => ?_, x, hx, by rw [hxf rfl, h1, hjl]⟩
        rw [hop] at hz
        have := hp.1 z hz
        simp only at this
        omega
    · intro n x hx
      obtain ⟨y, hy, hp, hf⟩ := hm n x hx
      have := h8 n y hy
      rw [List.length_append, List.length_singleton]
      rcases hf with hf | hf <;> rw [hf, hp] <;> omega
  · obtain ⟨hn, hk01⟩ := begOk_new he hk
    have hnd : ndNext s nds e = nds ++ [⟨s.cnt, (s.opn.head?.map (·.1)).getD (-1), e.num, s.cnt + 1⟩] := by unfold ndNext; rw [if_neg hk]
    rw [hnd]
    have hnx : (begNext s e).next = s.next + 1 := by unfold begNext; simp [hk]
    have hen : e.num.toNat = nds.length := by omega
    have hop : ∀ x ∈ (begNext s e).opn, x ∈ s.opn ∨ (e.kind = 0 ∧ x.1 = e.num) := by
      intro x hx
      unfold begNext at hx
      simp only [hk, if_false] at hx
      by_cases h0 : e.kind = 0
      · rw [if_pos h0] at hx
        rcases List.mem_cons.1 hx with rfl | hx
        · exact .inr ⟨h0, rfl⟩
        · exact .inl hx
      · rw [if_neg h0] at hx; exact .inl hx
    refine ⟨by simp [begNext, h1], by rw [hnx, h2]; simp, ?_, ?_, ?_, ?_, ?_, ?_⟩
    · intro x hx
      rw [hnx]
      rcases hop x hx with h | ⟨_, h⟩
      · have := h3 x h; omega
      · omega
    · unfold begNext
      simp only [hk, if_false]
      by_cases h0 : e.kind = 0
      · rw [if_pos h0]
        exact List.pairwise_cons.2 ⟨fun z hz => by have := h3 z hz; simp only; omega, h4⟩
      · rw [if_neg h0]; exact h4
    · intro n x hx
      rcases snoc_get hx with ⟨_, hx⟩ | ⟨hn', rfl⟩
      · obtain ⟨e', h', h''⟩ := h5 n x hx
        exact ⟨e', get_snoc h', h''⟩
      · exact ⟨e, by simp only [h1]; exact get_last _ _, hk, by omega⟩
    · intro j e' hj hk'
      rcases snoc_get hj with ⟨_, hj⟩ | ⟨hjl, rfl⟩
      · obtain ⟨ha, y, hy, hp⟩ := h6 j e' hj hk'
        exact ⟨ha, y, get_snoc hy, hp⟩
      · exact ⟨by omega, _, by rw [hen]; exact get_last _ _, by simp only; omega⟩
    · intro j e' hj hk'
      rcases snoc_get hj with ⟨_, hj⟩ | ⟨hjl, rfl⟩
      · obtain ⟨ha, hb, y, hy, hf⟩ := h7 j e' hj hk'
        refine ⟨ha, fun z hz => ?_, y, get_snoc hy, hf⟩
        rcases hop z hz with h | ⟨_, h⟩
        · exact hb z h
        · have := get_lt hy; omega
      · refine ⟨by omega, fun z hz => ?_, _, by rw [hen]; exact get_last _ _, by simp only; omega⟩
        rcases hop z hz with h | ⟨h, _⟩
        · have := h3 z h; omega
        · exact absurd h hk'
    · intro n x hx
      rw [List.length_append, List.length_singleton]
      rcases snoc_get hx with ⟨_, hx⟩ | ⟨_, rfl⟩
      · have := h8 n x hx; omega
      · simp only; omega
theorem NdInv.all {pre : List Ev} {s : BegS} {nds : List Nd} (h : NdInv pre s nds) : ∀ (l : List Ev) {t : BegS}, begAll s l = some t → NdInv (pre ++ l) t (ndAll s nds l) := by
  intro l
  induction l generalizing pre s nds with
  | nil => intro t ht; simp only [begAll, Option.some.injEq] at ht; subst ht; simpa [ndAll] using h
  | cons e l ih =>
    intro t ht
    unfold begAll at ht
    split at ht
    · rename_i he
      have := ih (h.step he) ht
      simpa [ndAll] using this
    · cases ht
theorem nodesB_inv {l : List Ev} {t : BegS} (h : begAll beg0 l = some t) : NdInv l t (nodesB l) := by
  have := NdInv.start.all l h
  unfold nodesB
  simpa using this
theorem ndAll_snoc (s : BegS) (nds : List Nd) (l : List Ev) (e : Ev) {t : BegS} (h : begAll s l = some t) : ndAll s nds (l ++ [e]) = ndNext t (ndAll s nds l) e := by
  induction l generalizing s nds with
  | nil => simp only [begAll, Option.some.injEq] at h; subst h; rfl
  | cons x l ih =>
    unfold begAll at h
    split at h
    · exact ih _ _ h
    · cases h
theorem begAll_take {s t : BegS} {l : List Ev} (h : begAll s l = some t) (i : Nat) : ∃ u, begAll s (l.take i) = some u := by
  have h2 := h
  rw [← List.take_append_drop i l, begAll_app] at h2
  cases h3 : begAll s (l.take i) with
  | none => rw [h3] at h2; cases h2
  | some u => exact ⟨u, rfl⟩
theorem begAll_at {s t : BegS} {l : List Ev} (h : begAll s l = some t) (i : Nat) (hi : i < l.length) {u : BegS} (hu : begAll s (l.take i) = some u) : begOk u l[i] = true ∧ begAll s (l.take (i + 1)) = some (begNext u l[i]) := by
  have h2 := h
  rw [← List.take_append_drop i l, begAll_app, hu, List.drop_eq_getElem_cons hi] at h2
  simp only [Option.bind_some, begAll] at h2
  split at h2
  · rename_i hok
    refine ⟨hok, ?_⟩
    rw [List.take_succ_eq_append_getElem hi, begAll_snoc, hu]
    simp [hok]
  · cases h2
theorem nodesB_pos {l : List Ev} {t : BegS} (h : begAll beg0 l = some t) (i n : Nat) (x : Nd) (hx : (nodesB (l.take i))[n]? = some x) : ∃ y, (nodesB l)[n]? = some y ∧ y.pos = x.pos := by
  obtain ⟨u, hu⟩ := begAll_take h i
  obtain ⟨e, he, hk, hn⟩ := (nodesB_inv hu).here n x hx
  have he2 : l[x.pos]? = some e := by
    rw [List.getElem?_take] at he
    split at he
    · exact he
    · cases he
  obtain ⟨_, y, hy, hp⟩ := (nodesB_inv h).beg x.pos e he2 hk
  rw [hn, Int.toNat_natCast] at hy
  exact ⟨y, hy, hp⟩
theorem beg_le : ∀ (l : List Ev) (s t : BegS), begAll s l = some t → t.opn.length ≤ s.opn.length + l.length ∧ t.next ≤ s.next + l.length ∧ s.next ≤ t.next ∧ t.cnt = s.cnt + l.length := by
  intro l
  induction l with
  | nil => intro s t h; simp only [begAll, Option.some.injEq] at h; subst h; simp
  | cons e l ih =>
    intro s t h
    unfold begAll at h
    split at h
    · have := ih _ _ h
      have h1 : (begNext s e).opn.length ≤ s.opn.length + 1 := by
        unfold begNext
        simp only
        split
        · simp
        · split
          · simp; omega
          · omega
      have h2 : (begNext s e).next ≤ s.next + 1 ∧ s.next ≤ (begNext s e).next := by
        unfold begNext
        simp only
        split <;> omega
      have h3 : (begNext s e).cnt = s.cnt + 1 := rfl
      simp only [List.length_cons]
      omega
    · cases h
end Go.Proofs.YtklpihaelaagpaaDoor

namespace Go.Proofs.YtklpihaelaagpaaDoor
open Go.RowKit

def NdLast (nds : List Nd) : Prop := ∀ (n : Nat) (x : Nd), nds[n]? = some x → (n : Int) ≤ x.last ∧ x.last < nds.length
theorem NdLast.step {pre : List Ev} {s : BegS} {nds : List Nd} {e : Ev} (hi : NdInv pre s nds) (h : NdLast nds) (he : begOk s e = true) : NdLast (ndNext s nds e) := by
  intro n x hx
  by_cases hk : e.kind = 2
  · have hh := begOk_close he hk
    obtain ⟨rest, hr⟩ : ∃ rest, s.opn = (e.num, e.dep, e.name) :: rest := by
      cases ho : s.opn with
      | nil => rw [ho] at hh; cases hh
      | cons a r => rw [ho] at hh; simp at hh; exact ⟨r, by rw [hh]⟩
    have hnum := hi.opn _ (by rw [hr]; exact List.mem_cons_self)
    simp only at hnum
    have hnx := hi.nxt
    have hlen : (ndNext s nds e).length = nds.length := by unfold ndNext; rw [if_pos hk, List.length_modify]
    rw [hlen]
    unfold ndNext at hx
    rw [if_pos hk, List.getElem?_modify] at hx
    cases hy : nds[n]? with
    | none => rw [hy] at hx; simp at hx
    | some y =>
      rw [hy] at hx
      have hnl := get_lt hy
      by_cases hn : e.num.toNat = n
      · simp [hn] at hx
        subst hx
        simp only
        omega
      · simp [hn] at hx
        subst hx
        exact h n y hy
  · have hnum := (begOk_new he hk).1
    have hnx := hi.nxt
    unfold ndNext at hx ⊢
    rw [if_neg hk] at hx ⊢
    rw [List.length_append]
    rcases snoc_get hx with ⟨_, hx⟩ | ⟨rfl, rfl⟩
    · have := h n x hx
      simp
      omega
    · simp
      omega
theorem NdLast.all {pre : List Ev} {s : BegS} {nds : List Nd} (hi : NdInv pre s nds) (h : NdLast nds) : ∀ (l : List Ev) {t : BegS}, begAll s l = some t → NdLast (ndAll s nds l) := by
  intro l
  induction l generalizing pre s nds with
  | nil => intro t _; exact h
  | cons e l ih =>
    intro t ht
    unfold begAll at ht
    split at ht
    · rename_i he
      exact ih (hi.step he) (h.step hi he) ht
    · cases ht
theorem nodesB_last {l : List Ev} {t : BegS} (h : begAll beg0 l = some t) : NdLast (nodesB l) :=
  NdLast.all NdInv.start (fun n x hx => by simp at hx) l h
def lastN (evs : List Ev) (i : Nat) : Nat := ((nodesB evs)[i]?.map (·.last.toNat)).getD 0
theorem lastN_rng {l : List Ev} {t : BegS} (h : begAll beg0 l = some t) : ∀ i, i < (nodesB l).length → i ≤ lastN l i ∧ lastN l i < (nodesB l).length := by
  intro i hi
  have := nodesB_last h i _ (List.getElem?_eq_getElem hi)
  unfold lastN
  rw [List.getElem?_eq_getElem hi]
  simp only [Option.map_some, Option.getD_some]
  omega
theorem lastN_at {l : List Ev} {t : BegS} (h : begAll beg0 l = some t) {i : Nat} {x : Nd} (hx : (nodesB l)[i]? = some x) : ((lastN l i : Nat) : Int) = x.last := by
  have := nodesB_last h i x hx
  unfold lastN
  rw [hx]
  simp only [Option.map_some, Option.getD_some]
  omega
def ndTxt (evs : List Ev) (i : Nat) : List UInt8 := (((nodesB evs)[i]?.bind fun x => evs[x.pos]?).map (·.text)).getD []
theorem wholeB_some {l : List Ev} (h : wholeB l = true) : ∃ t, begAll beg0 l = some t ∧ l ≠ [] ∧ t.opn = [] := by
  unfold wholeB at h
  cases hst : begAll beg0 l with
  | none => rw [hst] at h; cases h
  | some st => rw [hst] at h; simp only [decide_eq_true_eq] at h; exact ⟨st, rfl, h⟩
theorem wholeB_pos {l : List Ev} (h : wholeB l = true) : 0 < (nodesB l).length := by
  obtain ⟨t, ht, hne, _⟩ := wholeB_some h
  have hinv := nodesB_inv ht
  obtain ⟨e, l', rfl⟩ := List.exists_cons_of_ne_nil hne
  have h0 : begOk beg0 e = true := by
    unfold begAll at ht
    split at ht
    · assumption
    · cases ht
  have hk : e.kind ≠ 2 := by
    intro hk
    have := begOk_close h0 hk
    simp [beg0] at this
  obtain ⟨_, x, hx, _⟩ := hinv.beg 0 e rfl hk
  have := get_lt hx
  omega
end Go.Proofs.YtklpihaelaagpaaDoor
