/-
  The plain law of a document's nodes: children, and what is below each.
-/
import Derived.Test.YtekoflcioooncaaDoorMxF
import Derived.Test.YtekoflcioooncaaDoorMxO
namespace Go.Proofs.YtekoflcioooncaaDoor
open Go.RowKit

def isOpn (s : BegS) (i : Int) : Prop := ∃ o ∈ s.opn, o.1 = i
def topOf (l : List (Int × Int × List UInt8)) : Int := (l.head?.map (·.1)).getD (-1)
structure NdAx (s : BegS) (nds : List Nd) : Prop where
  par : ∀ a r, (a :: r) <:+ s.opn → ∃ x, nds[a.1.toNat]? = some x ∧ x.par = topOf r
  first : ∀ (i : Nat) (x y : Nd), nds[i]? = some x → nds[i + 1]? = some y → (isOpn s i ∨ (i : Int) + 1 ≤ x.last) → y.par = (i : Int)
  sib : ∀ (k : Nat) (x y : Nd), nds[k]? = some x → ¬ isOpn s k → nds[(x.last + 1).toNat]? = some y → (x.par = -1 ∨ isOpn s x.par ∨ ∃ p, nds[x.par.toNat]? = some p ∧ x.last + 1 ≤ p.last) → y.par = x.par
  ins : ∀ (k : Nat) (x : Nd), nds[k]? = some x → ¬ isOpn s k → 0 ≤ x.par → ∃ p, nds[x.par.toNat]? = some p ∧ (isOpn s x.par ∨ x.last ≤ p.last)
  top : ∀ (k : Nat) (x : Nd), nds[k]? = some x → ¬ isOpn s k → x.last + 1 = (nds.length : Int) → x.par = topOf s.opn ∨ (0 ≤ x.par ∧ ¬ isOpn s x.par ∧ ∃ p, nds[x.par.toNat]? = some p ∧ p.last + 1 = (nds.length : Int))
  plt : ∀ (k : Nat) (x : Nd), nds[k]? = some x → -1 ≤ x.par ∧ x.par < (k : Int)
  root : ∀ (x : Nd), nds[0]? = some x → x.par = -1
theorem NdAx.start : NdAx beg0 [] :=
  ⟨fun a r h => by simp [beg0] at h, fun i x y h => by simp at h, fun i x y h => by simp at h, fun i x h => by simp at h, fun i x h => by simp at h, fun i x h => by simp at h, fun x h => by simp at h⟩
theorem topOf_lt {pre : List Ev} {s : BegS} {nds : List Nd} (h : NdInv pre s nds) : -1 ≤ topOf s.opn ∧ topOf s.opn < (nds.length : Int) ∧ (topOf s.opn = -1 ∨ isOpn s (topOf s.opn)) := by
  cases ho : s.opn with
  | nil => simp [topOf]; omega
  | cons a r =>
    have ha : a ∈ s.opn := by rw [ho]; exact List.mem_cons_self
    have := h.opn a ha
    have hn := h.nxt
    refine ⟨by simp [topOf]; omega, by simp [topOf]; omega, .inr ⟨a, ha, by simp [topOf]⟩⟩
theorem NdAx.step {pre : List Ev} {s : BegS} {nds : List Nd} {e : Ev} (hi : NdInv pre s nds) (hl : NdLast nds) (h : NdAx s nds) (he : begOk s e = true) : NdAx (begNext s e) (ndNext s nds e) := by
  have hnx := hi.nxt
  by_cases hk : e.kind = 2
  · have hh := begOk_close he hk
    obtain ⟨rest, hr⟩ : ∃ rest, s.opn = (e.num, e.dep, e.name) :: rest := by
      cases ho : s.opn with
      | nil => rw [ho] at hh; cases hh
      | cons a r => rw [ho] at hh; simp at hh; exact ⟨r, by rw [hh]⟩
    have hnum := hi.opn _ (by rw [hr]; exact List.mem_cons_self)
    simp only at hnum
    have hop : (begNext s e).opn = rest := by unfold begNext; simp [hk, hr]
    have hsrt := hi.srt
    rw [hr] at hsrt
    have hp := List.pairwise_cons.1 hsrt
    have hopn : ∀ i, isOpn s i ↔ i = e.num ∨ isOpn (begNext s e) i := by
      intro i
      unfold isOpn
      rw [hop, hr]
      constructor
      · rintro ⟨o, ho, rfl⟩
        rcases List.mem_cons.1 ho with rfl | ho
        · exact .inl rfl
        · exact .inr ⟨o, ho, rfl⟩
      · rintro (rfl | ⟨o, ho, rfl⟩)
        · exact ⟨_, List.mem_cons_self, rfl⟩
        · exact ⟨o, List.mem_cons_of_mem _ ho, rfl⟩
    have hnot : ¬ isOpn (begNext s e) e.num := by
      rintro ⟨o, ho, hoe⟩
      rw [hop] at ho
      have := hp.1 o ho
      simp only at this
      omega
    have hm : ∀ (n : Nat) (x : Nd), (ndNext s nds e)[n]? = some x → ∃ y, nds[n]? = some y ∧ x.par = y.par ∧ (((n : Int) = e.num ∧ x.last = (nds.length : Int) - 1) ∨ ((n : Int) ≠ e.num ∧ x.last = y.last)) := by
      intro n x hx
      unfold ndNext at hx
      rw [if_pos hk, List.getElem?_modify] at hx
      cases hy : nds[n]? with
      | none => rw [hy] at hx; simp at hx
      | some y =>
        rw [hy] at hx
        by_cases hn : e.num.toNat = n
        · simp [hn] at hx; subst hx; exact ⟨y, rfl, rfl, .inl ⟨by omega, rfl⟩⟩
        · simp [hn] at hx; subst hx; exact ⟨y, rfl, rfl, .inr ⟨by omega, rfl⟩⟩
    have hm2 : ∀ (n : Nat) (y : Nd), nds[n]? = some y → ∃ x, (ndNext s nds e)[n]? = some x ∧ x.par = y.par ∧ (((n : Int) = e.num ∧ x.last = (nds.length : Int) - 1) ∨ ((n : Int) ≠ e.num ∧ x.last = y.last)) := by
      intro n y hy
      unfold ndNext
      rw [if_pos hk, List.getElem?_modify, hy]
      by_cases hn : e.num.toNat = n
      · exact ⟨⟨y.pos, y.par, (nds.length : Int) - 1, s.cnt + 1⟩, by simp [hn], rfl, .inl ⟨by omega, rfl⟩⟩
      · exact ⟨y, by simp [hn], rfl, .inr ⟨by omega, rfl⟩⟩
    have hlen : (ndNext s nds e).length = nds.length := by unfold ndNext; rw [if_pos hk, List.length_modify]
    obtain ⟨xt, hxt, hxtp⟩ := h.par (e.num, e.dep, e.name) rest (by rw [hr]; exact List.suffix_rfl)
    simp only at hxt
    refine ⟨?_, ?_, ?_, ?_, ?_, ?_, ?_⟩
    · intro a r hs
      rw [hop] at hs
      obtain ⟨x, hx, hxp⟩ := h.par a r (by rw [hr]; exact hs.trans (List.suffix_cons _ _))
      obtain ⟨x', hx', hp', _⟩ := hm2 _ _ hx
      exact ⟨x', hx', by rw [hp', hxp]⟩
    · intro i x' y' hx' hy' hc
      obtain ⟨x, hx, hxp, hxl⟩ := hm i x' hx'
      obtain ⟨y, hy, hyp, _⟩ := hm _ y' hy'
      rw [hyp]
      refine h.first i x y hx hy ?_
      rcases hxl with ⟨h1, _⟩ | ⟨_, h2⟩
      · exact .inl ((hopn _).2 (.inl h1))
      · rcases hc with hc | hc
        · exact .inl ((hopn _).2 (.inr hc))
        · exact .inr (by omega)
    · intro k x' y' hx' hno hy' hc
      obtain ⟨x, hx, hxp, hxl⟩ := hm k x' hx'
      obtain ⟨y, hy, hyp, _⟩ := hm _ y' hy'
      have hyl := get_lt hy
      rcases hxl with ⟨h1, h2⟩ | ⟨h1, h2⟩
      · omega
      · rw [hyp, hxp]
        rw [h2] at hy
        refine h.sib k x y hx ?_ hy ?_
        · intro hc'
          rcases (hopn _).1 hc' with h3 | h3
          · exact h1 h3
          · exact hno h3
        · rw [hxp] at hc
          rcases hc with hc | hc | ⟨p', hp', hpl⟩
          · exact .inl hc
          · exact .inr (.inl ((hopn _).2 (.inr hc)))
          · obtain ⟨p, hp0, _, hpl0⟩ := hm _ p' hp'
            have hxge := h.plt k x hx
            by_cases hneg : x.par = -1
            · exact .inl hneg
            rcases hpl0 with ⟨h3, h4⟩ | ⟨h3, h4⟩
            · exact .inr (.inl ((hopn _).2 (.inl (by omega))))
            · exact .inr (.inr ⟨p, hp0, by omega⟩)
    · intro k x' hx' hno h0
      obtain ⟨x, hx, hxp, hxl⟩ := hm k x' hx'
      rw [hxp] at h0 ⊢
      rcases hxl with ⟨h1, h2⟩ | ⟨h1, h2⟩
      · have hkn : e.num.toNat = k := by omega
        rw [hkn] at hxt
        obtain rfl : xt = x := by rw [hxt] at hx; exact Option.some.inj hx
        cases rest with
        | nil => rw [hxtp] at h0; simp [topOf] at h0
        | cons b r2 =>
          have hb : xt.par = b.1 := by rw [hxtp]; simp [topOf]
          obtain ⟨p, hp1, _⟩ := h.par b r2 (by rw [hr]; exact List.suffix_cons _ _)
          obtain ⟨p', hp', _⟩ := hm2 _ _ hp1
          exact ⟨p', by rw [hb]; exact hp', .inl ⟨b, by rw [hop]; exact List.mem_cons_self, hb.symm⟩⟩
      · have hno' : ¬ isOpn s k := by
          intro hc'
          rcases (hopn _).1 hc' with h3 | h3
          · exact h1 h3
          · exact hno h3
        obtain ⟨p, hp1, hpo⟩ := h.ins k x hx hno' h0
        obtain ⟨p', hp', _, hpl⟩ := hm2 _ _ hp1
        refine ⟨p', hp', ?_⟩
        have hxl := (hl k x hx).2
        rcases hpl with ⟨h3, h4⟩ | ⟨h3, h4⟩
        · exact .inr (by omega)
        · rcases hpo with hpo | hpo
          · rcases (hopn _).1 hpo with h5 | h5
            · omega
            · exact .inl h5
          · exact .inr (by omega)
    · intro k x' hx' hno hlast
      rw [hlen] at hlast ⊢
      rw [hop]
      obtain ⟨x, hx, hxp, hxl⟩ := hm k x' hx'
      rw [hxp]
      rcases hxl with ⟨h1, h2⟩ | ⟨h1, h2⟩
      · have hkn : e.num.toNat = k := by omega
        rw [hkn] at hxt
        obtain rfl : xt = x := by rw [hxt] at hx; exact Option.some.inj hx
        exact .inl hxtp
      · have hno' : ¬ isOpn s k := by
          intro hc'
          rcases (hopn _).1 hc' with h3 | h3
          · exact h1 h3
          · exact hno h3
        rcases h.top k x hx hno' (by omega) with h3 | ⟨h3, h4, p, hp1, hp2⟩
        · have h4 : x.par = e.num := by rw [h3, hr]; simp [topOf]
          obtain ⟨p', hp', _, hpl⟩ := hm2 _ _ hxt
          refine .inr ⟨by omega, by rw [h4]; exact hnot, p', by rw [h4]; exact hp', ?_⟩
          rcases hpl with ⟨_, h6⟩ | ⟨h5, _⟩
          · omega
          · omega
        · obtain ⟨p', hp', _, hpl⟩ := hm2 _ _ hp1
          refine .inr ⟨h3, fun hc => h4 ((hopn _).2 (.inr hc)), p', hp', ?_⟩
          rcases hpl with ⟨h5, _⟩ | ⟨_, h6⟩
          · exact absurd ((hopn _).2 (.inl (by omega))) h4
          · omega
    · intro k x' hx'
      obtain ⟨x, hx, hxp, _⟩ := hm k x' hx'
      rw [hxp]
      exact h.plt k x hx
    · intro x' hx'
      obtain ⟨x, hx, hxp, _⟩ := hm 0 x' hx'
      rw [hxp]
      exact h.root x hx
  · obtain ⟨hn, hk01⟩ := begOk_new he hk
    have hnd : ndNext s nds e = nds ++ [⟨s.cnt, topOf s.opn, e.num, s.cnt + 1⟩] := by unfold ndNext; rw [if_neg hk]; rfl
    rw [hnd]
    have htop := topOf_lt hi
    have hopn : ∀ i, isOpn (begNext s e) i ↔ isOpn s i ∨ (e.kind = 0 ∧ i = (nds.length : Int)) := by
      intro i
      unfold isOpn begNext
      simp only [hk, if_false]
      by_cases h0 : e.kind = 0
      · simp only [h0, if_true, true_and]
        constructor
        · rintro ⟨o, ho, rfl⟩
          rcases List.mem_cons.1 ho with rfl | ho
          · exact .inr (by simp only; omega)
          · exact .inl ⟨o, ho, rfl⟩
        · rintro (⟨o, ho, rfl⟩ | rfl)
          · exact ⟨o, List.mem_cons_of_mem _ ho, rfl⟩
          · exact ⟨_, List.mem_cons_self, by simp only; omega⟩
      · simp [h0]
    have hlt : ∀ i, isOpn s i → 0 ≤ i ∧ i < (nds.length : Int) := by
      rintro i ⟨o, ho, rfl⟩
      have := hi.opn o ho
      omega
    refine ⟨?_, ?_, ?_, ?_, ?_, ?_, ?_⟩
    · intro a r hs
      have hs' : (a :: r) <:+ s.opn ∨ (e.kind = 0 ∧ a.1 = e.num ∧ r = s.opn) := by
        unfold begNext at hs
        simp only [hk, if_false] at hs
        by_cases h0 : e.kind = 0
        · rw [if_pos h0] at hs
          rcases List.suffix_cons_iff.1 hs with h1 | h1
          · simp only [List.cons.injEq] at h1
            exact .inr ⟨h0, by rw [h1.1], h1.2⟩
          · exact .inl h1
        · rw [if_neg h0] at hs; exact .inl hs
      rcases hs' with h1 | ⟨_, h1, rfl⟩
      · obtain ⟨x, hx, hxp⟩ := h.par a r h1
        exact ⟨x, get_snoc hx, hxp⟩
      · exact ⟨⟨s.cnt, topOf s.opn, e.num, s.cnt + 1⟩, by rw [show a.1.toNat = nds.length by omega]; exact get_last _ _, rfl⟩
    · intro i x y hx hy hc
      rcases snoc_get hy with ⟨hil, hy⟩ | ⟨hil, rfl⟩
      · rcases snoc_get hx with ⟨_, hx⟩ | ⟨hx, _⟩
        · refine h.first i x y hx hy ?_
          rcases hc with hc | hc
          · rcases (hopn _).1 hc with h1 | ⟨_, h1⟩
            · exact .inl h1
            · omega
          · exact .inr hc
        · omega
      · rcases snoc_get hx with ⟨_, hx⟩ | ⟨hx, _⟩
        · have hxl := (hl i x hx).2
          rcases hc with hc | hc
          · rcases (hopn _).1 hc with ⟨o, ho, hoi⟩ | ⟨_, h1⟩
            · cases hs : s.opn with
              | nil => rw [hs] at ho; cases ho
              | cons b r =>
                have hsrt := hi.srt
                rw [hs] at hsrt
                have hb := hi.opn b (by rw [hs]; exact List.mem_cons_self)
                rw [hs] at ho
                simp only [topOf, List.head?_cons, Option.map_some, Option.getD_some]
                rcases List.mem_cons.1 ho with rfl | ho
                · exact hoi
                · have := (List.pairwise_cons.1 hsrt).1 o ho
                  omega
            · omega
          · omega
        · omega
    · intro k x y hx hno hy hc
      rcases snoc_get hx with ⟨hkl, hx⟩ | ⟨hkl, rfl⟩
      · have hno' : ¬ isOpn s k := fun hc' => hno ((hopn _).2 (.inl hc'))
        have hxl := hl k x hx
        have hxp := h.plt k x hx
        have hcs : x.par = -1 ∨ isOpn s x.par ∨ ∃ p, nds[x.par.toNat]? = some p ∧ x.last + 1 ≤ p.last := by
          rcases hc with hc | hc | ⟨p, hp, hpl⟩
          · exact .inl hc
          · rcases (hopn _).1 hc with h1 | ⟨_, h1⟩
            · exact .inr (.inl h1)
            · omega
          · by_cases hneg : x.par = -1
            · exact .inl hneg
            rcases snoc_get hp with ⟨_, hp⟩ | ⟨hp, _⟩
            · exact .inr (.inr ⟨p, hp, hpl⟩)
            · omega
        rcases snoc_get hy with ⟨_, hy⟩ | ⟨hyl, rfl⟩
        · exact h.sib k x y hx hno' hy hcs
        · rcases h.top k x hx hno' (by omega) with h1 | ⟨h1, h2, p, hp, hpl⟩
          · exact h1.symm
          · rcases hcs with h3 | h3 | ⟨q, hq, hql⟩
            · omega
            · exact absurd h3 h2
            · rw [hp] at hq
              obtain rfl := Option.some.inj hq
              omega
      · have := get_lt hy
        rw [List.length_append, List.length_singleton] at this
        simp only at this
        omega
    · intro k x hx hno h0
      rcases snoc_get hx with ⟨hkl, hx⟩ | ⟨hkl, rfl⟩
      · obtain ⟨p, hp, hpo⟩ := h.ins k x hx (fun hc' => hno ((hopn _).2 (.inl hc'))) h0
        refine ⟨p, get_snoc hp, ?_⟩
        rcases hpo with hpo | hpo
        · exact .inl ((hopn _).2 (.inl hpo))
        · exact .inr hpo
      · simp only at h0 ⊢
        rcases htop.2.2 with h1 | h1
        · omega
        · have hlt' : (topOf s.opn).toNat < nds.length := by omega
          exact ⟨_, get_snoc (List.getElem?_eq_getElem hlt'), .inl ((hopn _).2 (.inl h1))⟩
    · intro k x hx hno hlast
      rw [List.length_append, List.length_singleton] at hlast ⊢
      rcases snoc_get hx with ⟨hkl, hx⟩ | ⟨hkl, rfl⟩
      · have := hl k x hx
        omega
      · refine .inl ?_
        have h0 : e.kind ≠ 0 := fun h0 => hno ((hopn _).2 (.inr ⟨h0, by omega⟩))
        unfold begNext
        simp only [hk, h0, if_false]
    · intro k x hx
      rcases snoc_get hx with ⟨hkl, hx⟩ | ⟨hkl, rfl⟩
      · exact h.plt k x hx
      · simp only
        omega
    · intro x hx
      rcases snoc_get hx with ⟨hkl, hx⟩ | ⟨hkl, rfl⟩
      · exact h.root x hx
      · simp only
        omega
theorem NdAx.all {pre : List Ev} {s : BegS} {nds : List Nd} (hi : NdInv pre s nds) (hl : NdLast nds) (h : NdAx s nds) : ∀ (l : List Ev) {t : BegS}, begAll s l = some t → NdAx t (ndAll s nds l) := by
  intro l
  induction l generalizing pre s nds with
  | nil => intro t ht; simp only [begAll, Option.some.injEq] at ht; subst ht; exact h
  | cons e l ih =>
    intro t ht
    unfold begAll at ht
    split at ht
    · rename_i he
      exact ih (hi.step he) (hl.step hi he) (h.step hi hl he) ht
    · cases ht
theorem nodesB_ax {l : List Ev} {t : BegS} (h : begAll beg0 l = some t) : NdAx t (nodesB l) :=
  NdAx.all NdInv.start (fun n x hx => by simp at hx) NdAx.start l h

def parN (evs : List Ev) (i : Nat) : Int := ((nodesB evs)[i]?.map (·.par)).getD (-1)
def hiP (L : Nat) (f : Nat → Nat) (n : Int) : Nat := if n < 0 then L else f n.toNat + 1
structure AxF (L : Nat) (f : Nat → Nat) (p : Nat → Int) : Prop where
  rng : ∀ i, i < L → i ≤ f i ∧ f i < L
  root : 0 < L → p 0 = -1
  plt : ∀ k, k < L → -1 ≤ p k ∧ p k < k
  first : ∀ i, i < L → i + 1 ≤ f i → p (i + 1) = i
  sib : ∀ k, k < L → f k + 1 < hiP L f (p k) → p (f k + 1) = p k
  ins : ∀ k, k < L → f k < hiP L f (p k)
theorem axF_of {evs : List Ev} (h : wholeB evs = true) : AxF (nodesB evs).length (lastN evs) (parN evs) := by
  obtain ⟨t, ht, _, ho⟩ := wholeB_some h
  have hx := nodesB_ax ht
  have hr := lastN_rng ht
  have hno : ∀ i, ¬ isOpn t i := by rintro i ⟨o, ho', _⟩; rw [ho] at ho'; cases ho'
  have hat : ∀ i, i < (nodesB evs).length → ∃ x, (nodesB evs)[i]? = some x ∧ ((lastN evs i : Nat) : Int) = x.last ∧ parN evs i = x.par := by
    intro i hi
    exact ⟨_, List.getElem?_eq_getElem hi, lastN_at ht (List.getElem?_eq_getElem hi), by unfold parN; rw [List.getElem?_eq_getElem hi]; rfl⟩
  refine ⟨hr, ?_, ?_, ?_, ?_, ?_⟩
  · intro h0
    obtain ⟨x, hx0, _, hp⟩ := hat 0 h0
    rw [hp]; exact hx.root x hx0
  · intro k hk
    obtain ⟨x, hx0, _, hp⟩ := hat k hk
    rw [hp]; exact hx.plt k x hx0
  · intro i hi h1
    obtain ⟨x, hx0, hl, _⟩ := hat i hi
    obtain ⟨y, hy0, _, hp⟩ := hat (i + 1) (by have := hr i hi; omega)
    rw [hp]
    exact hx.first i x y hx0 hy0 (.inr (by omega))
  · intro k hk h1
    obtain ⟨x, hx0, hl, hp⟩ := hat k hk
    have hpk := hx.plt k x hx0
    unfold hiP at h1
    have h2 : lastN evs k + 1 < (nodesB evs).length := by
      split at h1
      · exact h1
      · have := hr (parN evs k).toNat (by omega); omega
    obtain ⟨y, hy0, _, hpy⟩ := hat _ h2
    rw [hpy, hp]
    refine hx.sib k x y hx0 (hno _) (by rw [← hl, show ((lastN evs k : Nat) : Int) + 1 = ((lastN evs k + 1 : Nat) : Int) by omega, Int.toNat_natCast]; exact hy0) ?_
    by_cases hneg : x.par = -1
    · exact .inl hneg
    · obtain ⟨p, hp0, hpl, _⟩ := hat x.par.toNat (by omega)
      rw [hp, if_neg (by omega)] at h1
      exact .inr (.inr ⟨p, hp0, by omega⟩)
  · intro k hk
    obtain ⟨x, hx0, hl, hp⟩ := hat k hk
    unfold hiP
    split
    · exact (hr k hk).2
    · rename_i h1
      obtain ⟨p, hp0, hc⟩ := hx.ins k x hx0 (hno _) (by omega)
      have hplt := hx.plt k x hx0
      obtain ⟨p', hp0', hpl, _⟩ := hat x.par.toNat (by omega)
      rw [hp0] at hp0'
      obtain rfl := Option.some.inj hp0'
      rcases hc with hc | hc
      · exact absurd hc (hno _)
      · rw [hp]; omega
end Go.Proofs.YtekoflcioooncaaDoor

namespace Go.Proofs.YtekoflcioooncaaDoor
open Go.RowKit

def rngL (a b : Nat) : List Int := (List.range' a (b - a)).map (fun (i : Nat) => (i : Int))
theorem rngL_cons {a b : Nat} (h : a < b) : rngL a b = (a : Int) :: rngL (a + 1) b := by
  unfold rngL
  rw [show b - a = (b - (a + 1)) + 1 by omega, List.range'_succ]
  simp
theorem rngL_nil {a b : Nat} (h : b ≤ a) : rngL a b = [] := by
  unfold rngL
  rw [show b - a = 0 by omega]; rfl
theorem rngL_length (a b : Nat) : (rngL a b).length = b - a := by unfold rngL; simp
theorem rngL_get {a b i : Nat} (h : i < (rngL a b).length) : (rngL a b)[i] = ((a + i : Nat) : Int) := by
  have h2 : (rngL a b)[i]? = some ((a + i : Nat) : Int) := by
    rw [rngL_length] at h
    unfold rngL
    rw [List.getElem?_map, List.getElem?_range' h]
    simp
  rw [List.getElem?_eq_getElem h] at h2
  exact Option.some.inj h2
theorem rngL_app : ∀ (m a b c : Nat), b = a + m → b ≤ c → rngL a b ++ rngL b c = rngL a c
  | 0, a, b, c, h, _ => by rw [rngL_nil (by omega), show b = a by omega]; rfl
  | m + 1, a, b, c, h, hc => by
    rw [rngL_cons (by omega : a < b), rngL_cons (by omega : a < c), List.cons_append, rngL_app m (a + 1) b c (by omega) hc]
theorem steps_rng {f : Nat → Nat} {a : Int} (ha : a ≠ 0) (hi : Nat) : ∀ m k, hi ≤ k + m → stepsF (nextOf f a) hi m k = rngL k hi
  | 0, k, h => by rw [rngL_nil (by omega)]; rfl
  | m + 1, k, h => by
    by_cases hk : k < hi
    · rw [stepsF_at hk (by omega), rngL_cons hk, Nat.add_sub_cancel]
      have hn : nextOf f a k = k + 1 := by unfold nextOf; rw [if_neg ha]
      rw [hn, steps_rng ha hi m (k + 1) (by omega)]
    · rw [stepsF_end (by omega), rngL_nil (by omega)]
theorem stepsF_len (g : Nat → Nat) (hi : Nat) : ∀ m k, (stepsF g hi m k).length ≤ m
  | 0, k => Nat.le_refl _
  | m + 1, k => by
    show (if k < hi then (k : Int) :: stepsF g hi m (g k) else []).length ≤ m + 1
    split
    · have := stepsF_len g hi m (g k); simp; exact this
    · simp
theorem alongM_len (L : Nat) (f : Nat → Nat) (n a : Int) : (alongM L f n a).length ≤ L + 1 := by
  unfold alongM
  split
  · simp
  · rw [List.length_append]
    have h1 : (if a = 2 ∨ a = 3 then [n] else []).length ≤ 1 := by split <;> simp
    have h2 : (if a = 3 then [] else stepsF (nextOf f a) (hiOf L f n) L (n + 1).toNat).length ≤ L := by
      split
      · simp
      · exact stepsF_len _ _ _ _
    omega
section
variable {L : Nat} {f : Nat → Nat} {p : Nat → Int}
theorem hiOf_le (h : ∀ i, i < L → i ≤ f i ∧ f i < L) {n : Int} (hn : n < L) : hiOf L f n ≤ L := by
  unfold hiOf
  split
  · exact Nat.le_refl _
  · have := h n.toNat (by omega); omega
theorem alongM_desc (h : ∀ i, i < L → i ≤ f i ∧ f i < L) {n : Int} (h1 : -1 ≤ n) (h2 : n < L) : alongM L f n 1 = rngL (n + 1).toNat (hiOf L f n) := by
  unfold alongM
  rw [if_neg (by omega), if_neg (by omega), if_neg (by omega), List.nil_append]
  exact steps_rng (by omega) _ _ _ (by have := hiOf_le h h2; omega)
theorem alongM_self {n : Int} (h1 : -1 ≤ n) (h2 : n < L) : alongM L f n 3 = [n] := by
  unfold alongM
  rw [if_neg (by omega), if_pos (by omega), if_pos rfl]
  rfl
theorem alongM_orself (h : ∀ i, i < L → i ≤ f i ∧ f i < L) {n : Int} (h1 : -1 ≤ n) (h2 : n < L) : alongM L f n 2 = n :: alongM L f n 1 := by
  rw [alongM_desc h h1 h2]
  unfold alongM
  rw [if_neg (by omega), if_pos (by omega), if_neg (by omega)]
  rw [steps_rng (by omega) _ _ _ (by have := hiOf_le h h2; omega)]
  rfl
def withBelow (L : Nat) (f : Nat → Nat) (c : Int) : List Int := c :: alongM L f c 1
theorem kids_from (h : AxF L f p) {n : Int} (hn1 : -1 ≤ n) (hn : n < L) : ∀ m k, hiOf L f n ≤ k + m → (k < hiOf L f n → p k = n) → (∀ c ∈ stepsF (nextOf f 0) (hiOf L f n) m k, ∃ i : Nat, c = (i : Int) ∧ i < L ∧ p i = n) ∧ (stepsF (nextOf f 0) (hiOf L f n) m k).flatMap (withBelow L f) = rngL k (hiOf L f n)
  | 0, k, hm, _ => by
    rw [rngL_nil (by omega)]
    exact ⟨fun c hc => (by cases hc), rfl⟩
  | m + 1, k, hm, hp => by
    by_cases hk : k < hiOf L f n
    · have hkL : k < L := Nat.lt_of_lt_of_le hk (hiOf_le h.rng hn)
      have hpk := hp hk
      have hins := h.ins k hkL
      rw [hpk] at hins
      have hrk := h.rng k hkL
      have hnx : nextOf f 0 k = f k + 1 := by unfold nextOf; rw [if_pos rfl]
      have hsib := h.sib k hkL
      rw [hpk] at hsib
      have hins' : f k < hiOf L f n := hins
      obtain ⟨ih1, ih2⟩ := kids_from h hn1 hn m (f k + 1) (by omega) hsib
      rw [stepsF_at hk (by omega), Nat.add_sub_cancel, hnx]
      refine ⟨fun c hc => ?_, ?_⟩
      · rcases List.mem_cons.1 hc with rfl | hc
        · exact ⟨k, rfl, hkL, hpk⟩
        · exact ih1 c hc
      · rw [List.flatMap_cons, ih2]
        have hd : alongM L f (k : Int) 1 = rngL (k + 1) (f k + 1) := by
          rw [alongM_desc h.rng (by omega) (by omega)]
          have e1 : ((k : Int) + 1).toNat = k + 1 := by omega
          have e2 : hiOf L f (k : Int) = f k + 1 := by unfold hiOf; rw [if_neg (by omega), Int.toNat_natCast]
          rw [e1, e2]
        unfold withBelow
        rw [hd, List.cons_append, rngL_app (f k - k) (k + 1) (f k + 1) _ (by omega) (by omega), ← rngL_cons hk]
    · rw [stepsF_end (by omega), rngL_nil (by omega)]
      exact ⟨fun c hc => (by cases hc), rfl⟩
theorem kids_of (h : AxF L f p) {n : Int} (h1 : -1 ≤ n) (h2 : n < L) : (∀ c ∈ alongM L f n 0, ∃ i : Nat, c = (i : Int) ∧ i < L ∧ p i = n) ∧ (alongM L f n 0).flatMap (withBelow L f) = alongM L f n 1 := by
  have he : alongM L f n 0 = stepsF (nextOf f 0) (hiOf L f n) L (n + 1).toNat := by
    unfold alongM
    rw [if_neg (by omega), if_neg (by omega), if_neg (by omega), List.nil_append]
  have hle := hiOf_le h.rng h2
  rw [he, alongM_desc h.rng h1 h2]
  refine kids_from h h1 h2 L _ (by omega) (fun hk => ?_)
  by_cases hn : n = -1
  · subst hn
    exact h.root (by omega)
  · have hn0 : 0 ≤ n := by omega
    have e1 : (n + 1).toNat = n.toNat + 1 := by omega
    have e2 : hiOf L f n = f n.toNat + 1 := by unfold hiOf; rw [if_neg (by omega)]
    rw [e1, e2] at hk
    rw [e1, h.first n.toNat (by omega) (by omega)]
    omega
end
end Go.Proofs.YtekoflcioooncaaDoor
