/-
  The plain law of a document's nodes: children, and what is below each.
-/
import Derived.Test.YtopfbngdbhofkaaGreatDoorItH
import Derived.Test.YtopfbngdbhofkaaGreatDoorItU
import Derived.Test.YtopfbngdbhofkaaGreatDoorItZB
import Derived.Test.YtopfbngdbhofkaaGreatDoorItZC
import Derived.Test.YtopfbngdbhofkaaGreatDoorItZE
import Derived.ChangeMaps5
namespace Go.Proofs.YtopfbngdbhofkaaGreatDoor
open Go.RowKit

def isOpn (s : BegS) (i : Int) : Prop := ∃ o ∈ s.opn, o.1 = i
def topOf (l : List (Int × Int × List UInt8)) : Int := (l.head?.map (·.1)).getD (-1)
structure NdAx (s : BegS) (nds : List Nd) : Prop where
  par : ∀ a r, (a :: r) <:+ s.opn → ∃ x, nds[a.1.toNat]? = some x ∧ x.par = topOf r
  first : ∀ (i : Nat) (x y : Nd), nds[i]? = some x → nds[i + 1]? = some y → (isOpn s i ∨ (i : Int) + 1 ≤ x.last) → y.par = (i : Int)
  sib : ∀ (k : Nat) (x y : Nd), nds[k]? = some x → ¬ isOpn s k → nds[(x.last + 1).toNat]? = some y → (x.par = -1 ∨ isOpn s x.par ∨ ∃ p, nds[x.par.toNat]? = some p ∧ x.last + 1 ≤ p.last) → y.par = x.par
  ins : ∀ (k : Nat) (x : Nd), nds[k]? = some x → ¬ isOpn s k → 0 ≤ x.par → ∃ p, nds[x.par.toNat]? = some p ∧ (isOpn s x.par ∨ x.last ≤ p.last)
  top : ∀ (k : Nat) (x : Nd), nds[k]? = some x → ¬ isOpn s k → x.last + 1 = (nds.length : Int) → x.par = topOf s.opn ∨ (0 ≤ x.par ∧ ¬ isOpn s x.par ∧ ∃ p, nds[x.par.toNat]? = some p ∧ p.last + 1 = (nds.length : Int))
  plt : ∀ (k : Nat) (x : Nd), nds[k]? = some x → -1 ≤ x.par ∧ x.par < (k : Int)
  root : ∀ (x : Nd), nds[0]? = some x → x.par = -1
theorem NdAx.start : NdAx beg0 [] :=
  ⟨fun a r h => by simp [beg0] at h, fun i x y h => by simp at h, fun i x y h => by simp at h, fun i x h => by simp at h, fun i x h => by simp at h, fun i x h => by simp at h, fun x h => by simp at h⟩
theorem topOf_lt {pre : List Ev} {s : BegS} {nds : List Nd} (h : NdInv pre s nds) : -1 ≤ topOf s.opn ∧ topOf s.opn < (nds.length : Int) ∧ (topOf s.opn = -1 ∨ isOpn s (topOf s.opn)) := by
  cases ho : s.opn with
  | nil => simp [topOf]; omega
  | cons a r =>
    have ha : a ∈ s.opn := by rw [ho]; exact List.mem_cons_self
    have := h.opn a ha
    have hn := h.nxt
    refine ⟨by simp [topOf]; omega, by simp [topOf]; omega, .inr ⟨a, ha, by simp [topOf]⟩⟩
theorem NdAx.step {pre : List Ev} {s : BegS} {nds : List Nd} {e : Ev} (hi : NdInv pre s nds) (hl : NdLast nds) (h : NdAx s nds) (he : begOk s e = true) : NdAx (begNext s e) (ndNext s nds e) := by
  have hnx := hi.nxt
  by_cases hk : e.kind = 2
  · have hh := begOk_close he hk
    obtain ⟨rest, hr⟩ : ∃ rest, s.opn = (e.num, e.dep, e.name) :: rest := by
      cases ho : s.opn with
      | nil => rw [ho] at hh; cases hh
      | cons a r => rw [ho] at hh; simp at hh; exact ⟨r, by rw [hh]⟩
    have hnum := hi.opn _ (by rw [hr]; exact List.mem_cons_self)
    simp only at hnum
    have hop : (begNext s e).opn = rest := by unfold begNext; simp [hk, hr]
    have hsrt := hi.srt
    rw [hr] at hsrt
    have hp := List.pairwise_cons.1 hsrt
    have hopn : ∀ i, isOpn s i ↔ i = e.num ∨ isOpn (begNext s e) i := by
      intro i
      unfold isOpn
      rw [hop, hr]
      constructor
      · rintro ⟨o, ho, rfl⟩
        rcases List.mem_cons.1 ho with rfl | ho
        · exact .inl rfl
        · exact .inr ⟨o, ho, rfl⟩
      · rintro (rfl | ⟨o, ho, rfl⟩)
        · exact ⟨_, List.mem_cons_self, rfl⟩
        · exact ⟨o, List.mem_cons_of_mem _ ho, rfl⟩
    have hnot : ¬ isOpn (begNext s e) e.num := by
      rintro ⟨o, ho, hoe⟩
      rw [hop] at ho
      have := hp.1 o ho
      simp only at this
      omega
    have hm : ∀ (n : Nat) (x : Nd), (ndNext s nds e)[n]? = some x → ∃ y, nds[n]? = some y ∧ x.par = y.par ∧ (((n : Int) = e.num ∧ x.last = (nds.length : Int) - 1) ∨ ((n : Int) ≠ e.num ∧ x.last = y.last)) := by
      intro n x hx
      unfold ndNext at hx
      rw [if_pos hk, List.getElem?_modify] at hx
      cases hy : nds[n]? with
      | none => rw [hy] at hx; simp at hx
      | some y =>
        rw [hy] at hx
        by_cases hn : e.num.toNat = n
        · simp [hn] at hx; subst hx; exact ⟨y, rfl, rfl, .inl ⟨by omega, rfl⟩⟩
        · simp [hn] at hx; subst hx; exact ⟨y, rfl, rfl, .inr ⟨by omega, rfl⟩⟩
    have hm2 : ∀ (n : Nat) (y : Nd), nds[n]? = some y → ∃ x, (ndNext s nds e)[n]? = some x ∧ x.par = y.par ∧ (((n : Int) = e.num ∧ x.last = (nds.length : Int) - 1) ∨ ((n : Int) ≠ e.num ∧ x.last = y.last)) := by
      intro n y hy
      unfold ndNext
      rw [if_pos hk, List.getElem?_modify, hy]
      by_cases hn : e.num.toNat = n
      · exact ⟨⟨y.pos, y.par, (nds.length : Int) - 1, s.cnt + 1⟩, by simp [hn], rfl, .inl ⟨by omega, rfl⟩⟩
      · exact ⟨y, by simp [hn], rfl, .inr ⟨by omega, rfl⟩⟩
    have hlen : (ndNext s nds e).length = nds.length := by unfold ndNext; rw [if_pos hk, List.length_modify]
    obtain ⟨xt, hxt, hxtp⟩ := h.par (e.num, e.dep, e.name) rest (by rw [hr]; exact List.suffix_rfl)
    simp only at hxt
    refine ⟨?_, ?_, ?_, ?_, ?_, ?_, ?_⟩
    · intro a r hs
      rw [hop] at hs
      obtain ⟨x, hx, hxp⟩ := h.par a r (by rw [hr]; exact hs.trans (List.suffix_cons _ _))
      obtain ⟨x', hx', hp', _⟩ := hm2 _ _ hx
      exact ⟨x', hx', by rw [hp', hxp]⟩
    · intro i x' y' hx' hy' hc
      obtain ⟨x, hx, hxp, hxl⟩ := hm i x' hx'
      obtain ⟨y, hy, hyp, _⟩ := hm _ y' hy'
      rw [hyp]
      refine h.first i x y hx hy ?_
      rcases hxl with ⟨h1, _⟩ | ⟨_, h2⟩
      · exact .inl ((hopn _).2 (.inl h1))
      · rcases hc with hc | hc
        · exact .inl ((hopn _).2 (.inr hc))
        · exact .inr (by omega)
    · intro k x' y' hx' hno hy' hc
      obtain ⟨x, hx, hxp, hxl⟩ := hm k x' hx'
      obtain ⟨y, hy, hyp, _⟩ := hm _ y' hy'
      have hyl := get_lt hy
      rcases hxl with ⟨h1, h2⟩ | ⟨h1, h2⟩
      · omega
      · rw [hyp, hxp]
        rw [h2] at hy
        refine h.sib k x y hx ?_ hy ?_
        · intro hc'
          rcases (hopn _).1 hc' with h3 | h3
          · exact h1 h3
          · exact hno h3
        · rw [hxp] at hc
          rcases hc with hc | hc | ⟨p', hp', hpl⟩
          · exact .inl hc
          · exact .inr (.inl ((hopn _).2 (.inr hc)))
          · obtain ⟨p, hp0, _, hpl0⟩ := hm _ p' hp'
            have hxge := h.plt k x hx
            by_cases hneg : x.par = -1
            · exact .inl hneg
            rcases hpl0 with ⟨h3, h4⟩ | ⟨h3, h4⟩
            · exact .inr (.inl ((hopn _).2 (.inl (by omega))))
            · exact .inr (.inr ⟨p, hp0, by omega⟩)
    · intro k x' hx' hno h0
      obtain ⟨x, hx, hxp, hxl⟩ := hm k x' hx'
      rw [hxp] at h0 ⊢
      rcases hxl with ⟨h1, h2⟩ | ⟨h1, h2⟩
      · have hkn : e.num.toNat = k := by omega
        rw [hkn] at hxt
        obtain rfl : xt = x := by rw [hxt] at hx; exact Option.some.inj hx
        cases rest with
        | nil => rw [hxtp] at h0; simp [topOf] at h0
        | cons b r2 =>
          have hb : xt.par = b.1 := by rw [hxtp]; simp [topOf]
          obtain ⟨p, hp1, _⟩ := h.par b r2 (by rw [hr]; exact List.suffix_cons _ _)
          obtain ⟨p', hp', _⟩ := hm2 _ _ hp1
          exact ⟨p', by rw [hb]; exact hp', .inl ⟨b, by rw [hop]; exact List.mem_cons_self, hb.symm⟩⟩
      · have hno' : ¬ isOpn s k := by
          intro hc'
          rcases (hopn _).1 hc' with h3 | h3
          · exact h1 h3
          · exact hno h3
        obtain ⟨p, hp1, hpo⟩ := h.ins k x hx hno' h0
        obtain ⟨p', hp', _, hpl⟩ := hm2 _ _ hp1
        refine ⟨p', hp', ?_⟩
        have hxl := (hl k x hx).2
        rcases hpl with ⟨h3, h4⟩ | ⟨h3, h4⟩
        · exact .inr (by omega)
        · rcases hpo with hpo | hpo
          · rcases (hopn _).1 hpo with h5 | h5
            · omega
            · exact .inl h5
          · exact .inr (by omega)
    · intro k x' hx' hno hlast
      rw [hlen] at hlast ⊢
      rw [hop]
      obtain ⟨x, hx, hxp, hxl⟩ := hm k x' hx'
      rw [hxp]
      rcases hxl with ⟨h1, h2⟩ | ⟨h1, h2⟩
      · have hkn : e.num.toNat = k := by omega
        rw [hkn] at hxt
        obtain rfl : xt = x := by rw [hxt] at hx; exact Option.some.inj hx
        exact .inl hxtp
      · have hno' : ¬ isOpn s k := by
          intro hc'
          rcases (hopn _).1 hc' with h3 | h3
          · exact h1 h3
          · exact hno h3
        rcases h.top k x hx hno' (by omega) with h3 | ⟨h3, h4, p, hp1, hp2⟩
        · have h4 : x.par = e.num := by rw [h3, hr]; simp [topOf]
          obtain ⟨p', hp', _, hpl⟩ := hm2 _ _ hxt
          refine .inr ⟨by omega, by rw [h4]; exact hnot, p', by rw [h4]; exact hp', ?_⟩
          rcases hpl with ⟨_, h6⟩ | ⟨h5, _⟩
          · omega
          · omega
        · obtain ⟨p', hp', _, hpl⟩ := hm2 _ _ hp1
          refine .inr ⟨h3, fun hc => h4 ((hopn _).2 (.inr hc)), p', hp', ?_⟩
          rcases hpl with ⟨h5, _⟩ | ⟨_, h6⟩
          · exact absurd ((hopn _).2 (.inl (by omega))) h4
          · omega
    · intro k x' hx'
      obtain ⟨x, hx, hxp, _⟩ := hm k x' hx'
      rw [hxp]
      exact h.plt k x hx
    · intro x' hx'
      obtain ⟨x, hx, hxp, _⟩ := hm 0 x' hx'
      rw [hxp]
      exact h.root x hx
  · obtain ⟨hn, hk01⟩ := begOk_new he hk
    have hnd : ndNext s nds e = nds ++ [⟨s.cnt, topOf s.opn, e.num, s.cnt + 1⟩] := by unfold ndNext; rw [if_neg hk]; rfl
    rw [hnd]
    have htop := topOf_lt hi
    have hopn : ∀ i, isOpn (begNext s e) i ↔ isOpn s i ∨ (e.kind = 0 ∧ i = (nds.length : Int)) := by
      intro i
      unfold isOpn begNext
      simp only [hk, if_false]
      by_cases h0 : e.kind = 0
      · simp only [h0, if_true, true_and]
        constructor
        · rintro ⟨o, ho, rfl⟩
          rcases List.mem_cons.1 ho with rfl | ho
          · exact .inr (by simp only; omega)
          · exact .inl ⟨o, ho, rfl⟩
        · rintro (⟨o, ho, rfl⟩ | rfl)
          · exact ⟨o, List.mem_cons_of_mem _ ho, rfl⟩
          · exact ⟨_, List.mem_cons_self, by simp only; omega⟩
      · simp [h0]
    have hlt : ∀ i, isOpn s i → 0 ≤ i ∧ i < (nds.length : Int) := by
      rintro i ⟨o, ho, rfl⟩
      have := hi.opn o ho
      omega
    refine ⟨?_, ?_, ?_, ?_, ?_, ?_, ?_⟩
    · intro a r hs
      have hs' : (a :: r) <:+ s.opn ∨ (e.kind = 0 ∧ a.1 = e.num ∧ r = s.opn) := by
        unfold begNext at hs
        simp only [hk, if_false] at hs
        by_cases h0 : e.kind = 0
        · rw [if_pos h0] at hs
          rcases List.suffix_cons_iff.1 hs with h1 | h1
          · simp only [List.cons.injEq] at h1
            exact .inr ⟨h0, by rw [h1.1], h1.2⟩
          · exact .inl h1
        · rw [if_neg h0] at hs; exact .inl hs
      rcases hs' with h1 | ⟨_, h1, rfl⟩
      · obtain ⟨x, hx, hxp⟩ := h.par a r h1
        exact ⟨x, get_snoc hx, hxp⟩
      · exact ⟨⟨s.cnt, topOf s.opn, e.num, s.cnt + 1⟩, by rw [show a.1.toNat = nds.length by omega]; exact get_last _ _, rfl⟩
    · intro i x y hx hy hc
      rcases snoc_get hy with ⟨hil, hy⟩ | ⟨hil, rfl⟩
      · rcases snoc_get hx with ⟨_, hx⟩ | ⟨hx, _⟩
        · refine h.first i x y hx hy ?_
          rcases hc with hc | hc
          · rcases (hopn _).1 hc with h1 | ⟨_, h1⟩
            · exact .inl h1
            · omega
          · exact .inr hc
        · omega
      · rcases snoc_get hx with ⟨_, hx⟩ | ⟨hx, _⟩
        · have hxl := (hl i x hx).2
          rcases hc with hc | hc
          · rcases (hopn _).1 hc with ⟨o, ho, hoi⟩ | ⟨_, h1⟩
            · cases hs : s.opn with
              | nil => rw [hs] at ho; cases ho
              | cons b r =>
                have hsrt := hi.srt
                rw [hs] at hsrt
                have hb := hi.opn b (by rw [hs]; exact List.mem_cons_self)
                rw [hs] at ho
                simp only [topOf, List.head?_cons, Option.map_some, Option.getD_some]
                rcases List.mem_cons.1 ho with rfl | ho
                · exact hoi
                · have := (List.pairwise_cons.1 hsrt).1 o ho
                  omega
            · omega
          · omega
        · omega
    · intro k x y hx hno hy hc
      rcases snoc_get hx with ⟨hkl, hx⟩ | ⟨hkl, rfl⟩
      · have hno' : ¬ isOpn s k := fun hc' => hno ((hopn _).2 (.inl hc'))
        have hxl := hl k x hx
        have hxp := h.plt k x hx
        have hcs : x.par = -1 ∨ isOpn s x.par ∨ ∃ p, nds[x.par.toNat]? = some p ∧ x.last + 1 ≤ p.last := by
          rcases hc with hc | hc | ⟨p, hp, hpl⟩
          · exact .inl hc
          · rcases (hopn _).1 hc with h1 | ⟨_, h1⟩
            · exact .inr (.inl h1)
            · omega
          · by_cases hneg : x.par = -1
            · exact .inl hneg
            rcases snoc_get hp with ⟨_, hp⟩ | ⟨hp, _⟩
            · exact .inr (.inr ⟨p, hp, hpl⟩)
            · omega
        rcases snoc_get hy with ⟨_, hy⟩ | ⟨hyl, rfl⟩
        · exact h.sib k x y hx hno' hy hcs
        · rcases h.top k x hx hno' (by omega) with h1 | ⟨h1, h2, p, hp, hpl⟩
          · exact h1.symm
          · rcases hcs with h3 | h3 | ⟨q, hq, hql⟩
            · omega
            · exact absurd h3 h2
            · rw [hp] at hq
              obtain rfl := Option.some.inj hq
              omega
      · have := get_lt hy
        rw [List.length_append, List.length_singleton] at this
        simp only at this
        omega
    · intro k x hx hno h0
      rcases snoc_get hx with ⟨hkl, hx⟩ | ⟨hkl, rfl⟩
      · obtain ⟨p, hp, hpo⟩ := h.ins k x hx (fun hc' => hno ((hopn _).2 (.inl hc'))) h0
        refine ⟨p, get_snoc hp, ?_⟩
        rcases hpo with hpo | hpo
        · exact .inl ((hopn _).2 (.inl hpo))
        · exact .inr hpo
      · simp only at h0 ⊢
        rcases htop.2.2 with h1 | h1
        · omega
        · have hlt' : (topOf s.opn).toNat < nds.length := by omega
          exact ⟨_, get_snoc (List.getElem?_eq_getElem hlt'), .inl ((hopn _).2 (.inl h1))⟩
    · intro k x hx hno hlast
      rw [List.length_append, List.length_singleton] at hlast ⊢
      rcases snoc_get hx with ⟨hkl, hx⟩ | ⟨hkl, rfl⟩
      · have := hl k x hx
        omega
      · refine .inl ?_
        have h0 : e.kind ≠ 0 := fun h0 => hno ((hopn _).2 (.inr ⟨h0, by omega⟩))
        unfold begNext
        simp only [hk, h0, if_false]
    · intro k x hx
      rcases snoc_get hx with ⟨hkl, hx⟩ | ⟨hkl, rfl⟩
      · exact h.plt k x hx
      · simp only
        omega
    · intro x hx
      rcases snoc_get hx with ⟨hkl, hx⟩ | ⟨hkl, rfl⟩
      · exact h.root x hx
      · simp only
        omega
theorem NdAx.all {pre : List Ev} {s : BegS} {nds : List Nd} (hi : NdInv pre s nds) (hl : NdLast nds) (h : NdAx s nds) : ∀ (l : List Ev) {t : BegS}, begAll s l = some t → NdAx t (ndAll s nds l) := by
  intro l
  induction l generalizing pre s nds with
  | nil => intro t ht; simp only [begAll, Option.some.injEq] at ht; subst ht; exact h
  | cons e l ih =>
    intro t ht
    unfold begAll at ht
    split at ht
    · rename_i he
      exact ih (hi.step he) (hl.step hi he) (h.step hi hl he) ht
    · cases ht
theorem nodesB_ax {l : List Ev} {t : BegS} (h : begAll beg0 l = some t) : NdAx t (nodesB l) :=
  NdAx.all NdInv.start (fun n x hx => by simp at hx) NdAx.start l h

/-- what node i is in -/
def parN (evs : List Ev) (i : Nat) : Int := ((nodesB evs)[i]?.map (·.par)).getD (-1)
/-- where the nodes in n end -/
def hiP (L : Nat) (f : Nat → Nat) (n : Int) : Nat := if n < 0 then L else f n.toNat + 1
structure AxF (L : Nat) (f : Nat → Nat) (p : Nat → Int) : Prop where
  rng : ∀ i, i < L → i ≤ f i ∧ f i < L
  root : 0 < L → p 0 = -1
  plt : ∀ k, k < L → -1 ≤ p k ∧ p k < k
  first : ∀ i, i < L → i + 1 ≤ f i → p (i + 1) = i
  sib : ∀ k, k < L → f k + 1 < hiP L f (p k) → p (f k + 1) = p k
  ins : ∀ k, k < L → f k < hiP L f (p k)
theorem axF_of {evs : List Ev} (h : wholeB evs = true) : AxF (nodesB evs).length (lastN evs) (parN evs) := by
  obtain ⟨t, ht, _, ho⟩ := wholeB_some h
  have hx := nodesB_ax ht
  have hr := lastN_rng ht
  have hno : ∀ i, ¬ isOpn t i := by rintro i ⟨o, ho', _⟩; rw [ho] at ho'; cases ho'
  have hat : ∀ i, i < (nodesB evs).length → ∃ x, (nodesB evs)[i]? = some x ∧ ((lastN evs i : Nat) : Int) = x.last ∧ parN evs i = x.par := by
    intro i hi
    exact ⟨_, List.getElem?_eq_getElem hi, lastN_at ht (List.getElem?_eq_getElem hi), by unfold parN; rw [List.getElem?_eq_getElem hi]; rfl⟩
  refine ⟨hr, ?_, ?_, ?_, ?_, ?_⟩
  · intro h0
    obtain ⟨x, hx0, _, hp⟩ := hat 0 h0
    rw [hp]; exact hx.root x hx0
  · intro k hk
    obtain ⟨x, hx0, _, hp⟩ := hat k hk
    rw [hp]; exact hx.plt k x hx0
  · intro i hi h1
    obtain ⟨x, hx0, hl, _⟩ := hat i hi
    obtain ⟨y, hy0, _, hp⟩ := hat (i + 1) (by have := hr i hi; omega)
    rw [hp]
    exact hx.first i x y hx0 hy0 (.inr (by omega))
  · intro k hk h1
    obtain ⟨x, hx0, hl, hp⟩ := hat k hk
    have hpk := hx.plt k x hx0
    unfold hiP at h1
    have h2 : lastN evs k + 1 < (nodesB evs).length := by
      split at h1
      · exact h1
      · have := hr (parN evs k).toNat (by omega); omega
    obtain ⟨y, hy0, _, hpy⟩ := hat _ h2
    rw [hpy, hp]
    refine hx.sib k x y hx0 (hno _) (by rw [← hl, show ((lastN evs k : Nat) : Int) + 1 = ((lastN evs k + 1 : Nat) : Int) by omega, Int.toNat_natCast]; exact hy0) ?_
    by_cases hneg : x.par = -1
    · exact .inl hneg
    · obtain ⟨p, hp0, hpl, _⟩ := hat x.par.toNat (by omega)
      rw [hp, if_neg (by omega)] at h1
      exact .inr (.inr ⟨p, hp0, by omega⟩)
  · intro k hk
    obtain ⟨x, hx0, hl, hp⟩ := hat k hk
    unfold hiP
    split
    · exact (hr k hk).2
    · rename_i h1
      obtain ⟨p, hp0, hc⟩ := hx.ins k x hx0 (hno _) (by omega)
      have hplt := hx.plt k x hx0
      obtain ⟨p', hp0', hpl, _⟩ := hat x.par.toNat (by omega)
      rw [hp0] at hp0'
      obtain rfl := Option.some.inj hp0'
      rcases hc with hc | hc
      · exact absurd hc (hno _)
      · rw [hp]; omega
end Go.Proofs.YtopfbngdbhofkaaGreatDoor

/-
  The plain law of the axes: what they give, and how they lie in one another.
-/
namespace Go.Proofs.YtopfbngdbhofkaaGreatDoor
open Go.RowKit

def rngL (a b : Nat) : List Int := (List.range' a (b - a)).map (fun (i : Nat) => (i : Int))
theorem rngL_cons {a b : Nat} (h : a < b) : rngL a b = (a : Int) :: rngL (a + 1) b := by
  unfold rngL
  rw [show b - a = (b - (a + 1)) + 1 by omega, List.range'_succ]
  simp
theorem rngL_nil {a b : Nat} (h : b ≤ a) : rngL a b = [] := by
  unfold rngL
  rw [show b - a = 0 by omega]; rfl
theorem rngL_length (a b : Nat) : (rngL a b).length = b - a := by unfold rngL; simp
theorem rngL_get {a b i : Nat} (h : i < (rngL a b).length) : (rngL a b)[i] = ((a + i : Nat) : Int) := by
  have h2 : (rngL a b)[i]? = some ((a + i : Nat) : Int) := by
    rw [rngL_length] at h
    unfold rngL
    rw [List.getElem?_map, List.getElem?_range' h]
    simp
  rw [List.getElem?_eq_getElem h] at h2
  exact Option.some.inj h2
theorem rngL_app : ∀ (m a b c : Nat), b = a + m → b ≤ c → rngL a b ++ rngL b c = rngL a c
  | 0, a, b, c, h, _ => by rw [rngL_nil (by omega), show b = a by omega]; rfl
  | m + 1, a, b, c, h, hc => by
    rw [rngL_cons (by omega : a < b), rngL_cons (by omega : a < c), List.cons_append, rngL_app m (a + 1) b c (by omega) hc]
theorem steps_rng {f : Nat → Nat} {a : Int} (ha : a ≠ 0) (hi : Nat) : ∀ m k, hi ≤ k + m → stepsF (nextOf f a) hi m k = rngL k hi
  | 0, k, h => by rw [rngL_nil (by omega)]; rfl
  | m + 1, k, h => by
    by_cases hk : k < hi
    · rw [stepsF_at hk (by omega), rngL_cons hk, Nat.add_sub_cancel]
      have hn : nextOf f a k = k + 1 := by unfold nextOf; rw [if_neg ha]
      rw [hn, steps_rng ha hi m (k + 1) (by omega)]
    · rw [stepsF_end (by omega), rngL_nil (by omega)]
theorem stepsF_len (g : Nat → Nat) (hi : Nat) : ∀ m k, (stepsF g hi m k).length ≤ m
  | 0, k => Nat.le_refl _
  | m + 1, k => by
    show (if k < hi then (k : Int) :: stepsF g hi m (g k) else []).length ≤ m + 1
    split
    · have := stepsF_len g hi m (g k); simp; exact this
    · simp
theorem alongM_len (L : Nat) (f : Nat → Nat) (n a : Int) : (alongM L f n a).length ≤ L + 1 := by
  unfold alongM
  split
  · simp
  · rw [List.length_append]
    have h1 : (if a = 2 ∨ a = 3 then [n] else []).length ≤ 1 := by split <;> simp
    have h2 : (if a = 3 then [] else stepsF (nextOf f a) (hiOf L f n) L (n + 1).toNat).length ≤ L := by
      split
      · simp
      · exact stepsF_len _ _ _ _
    omega
section
variable {L : Nat} {f : Nat → Nat} {p : Nat → Int}
theorem hiOf_le (h : ∀ i, i < L → i ≤ f i ∧ f i < L) {n : Int} (hn : n < L) : hiOf L f n ≤ L := by
  unfold hiOf
  split
  · exact Nat.le_refl _
  · have := h n.toNat (by omega); omega
theorem alongM_desc (h : ∀ i, i < L → i ≤ f i ∧ f i < L) {n : Int} (h1 : -1 ≤ n) (h2 : n < L) : alongM L f n 1 = rngL (n + 1).toNat (hiOf L f n) := by
  unfold alongM
  rw [if_neg (by omega), if_neg (by omega), if_neg (by omega), List.nil_append]
  exact steps_rng (by omega) _ _ _ (by have := hiOf_le h h2; omega)
theorem alongM_self {n : Int} (h1 : -1 ≤ n) (h2 : n < L) : alongM L f n 3 = [n] := by
  unfold alongM
  rw [if_neg (by omega), if_pos (by omega), if_pos rfl]
  rfl
theorem alongM_orself (h : ∀ i, i < L → i ≤ f i ∧ f i < L) {n : Int} (h1 : -1 ≤ n) (h2 : n < L) : alongM L f n 2 = n :: alongM L f n 1 := by
  rw [alongM_desc h h1 h2]
  unfold alongM
  rw [if_neg (by omega), if_pos (by omega), if_neg (by omega)]
  rw [steps_rng (by omega) _ _ _ (by have := hiOf_le h h2; omega)]
  rfl
/-- a child and all below it -/
def withBelow (L : Nat) (f : Nat → Nat) (c : Int) : List Int := c :: alongM L f c 1
theorem kids_from (h : AxF L f p) {n : Int} (hn1 : -1 ≤ n) (hn : n < L) : ∀ m k, hiOf L f n ≤ k + m → (k < hiOf L f n → p k = n) → (∀ c ∈ stepsF (nextOf f 0) (hiOf L f n) m k, ∃ i : Nat, c = (i : Int) ∧ i < L ∧ p i = n) ∧ (stepsF (nextOf f 0) (hiOf L f n) m k).flatMap (withBelow L f) = rngL k (hiOf L f n)
  | 0, k, hm, _ => by
    rw [rngL_nil (by omega)]
    exact ⟨fun c hc => (by cases hc), rfl⟩
  | m + 1, k, hm, hp => by
    by_cases hk : k < hiOf L f n
    · have hkL : k < L := Nat.lt_of_lt_of_le hk (hiOf_le h.rng hn)
      have hpk := hp hk
      have hins := h.ins k hkL
      rw [hpk] at hins
      have hrk := h.rng k hkL
      have hnx : nextOf f 0 k = f k + 1 := by unfold nextOf; rw [if_pos rfl]
      have hsib := h.sib k hkL
      rw [hpk] at hsib
      have hins' : f k < hiOf L f n := hins
      obtain ⟨ih1, ih2⟩ := kids_from h hn1 hn m (f k + 1) (by omega) hsib
      rw [stepsF_at hk (by omega), Nat.add_sub_cancel, hnx]
      refine ⟨fun c hc => ?_, ?_⟩
      · rcases List.mem_cons.1 hc with rfl | hc
        · exact ⟨k, rfl, hkL, hpk⟩
        · exact ih1 c hc
      · rw [List.flatMap_cons, ih2]
        have hd : alongM L f (k : Int) 1 = rngL (k + 1) (f k + 1) := by
          rw [alongM_desc h.rng (by omega) (by omega)]
          have e1 : ((k : Int) + 1).toNat = k + 1 := by omega
          have e2 : hiOf L f (k : Int) = f k + 1 := by unfold hiOf; rw [if_neg (by omega), Int.toNat_natCast]
          rw [e1, e2]
        unfold withBelow
        rw [hd, List.cons_append, rngL_app (f k - k) (k + 1) (f k + 1) _ (by omega) (by omega), ← rngL_cons hk]
    · rw [stepsF_end (by omega), rngL_nil (by omega)]
      exact ⟨fun c hc => (by cases hc), rfl⟩
/-- children: their parent, and that they with what is below them are what is below -/
theorem kids_of (h : AxF L f p) {n : Int} (h1 : -1 ≤ n) (h2 : n < L) : (∀ c ∈ alongM L f n 0, ∃ i : Nat, c = (i : Int) ∧ i < L ∧ p i = n) ∧ (alongM L f n 0).flatMap (withBelow L f) = alongM L f n 1 := by
  have he : alongM L f n 0 = stepsF (nextOf f 0) (hiOf L f n) L (n + 1).toNat := by
    unfold alongM
    rw [if_neg (by omega), if_neg (by omega), if_neg (by omega), List.nil_append]
  have hle := hiOf_le h.rng h2
  rw [he, alongM_desc h.rng h1 h2]
  refine kids_from h h1 h2 L _ (by omega) (fun hk => ?_)
  by_cases hn : n = -1
  · subst hn
    exact h.root (by omega)
  · have hn0 : 0 ≤ n := by omega
    have e1 : (n + 1).toNat = n.toNat + 1 := by omega
    have e2 : hiOf L f n = f n.toNat + 1 := by unfold hiOf; rw [if_neg (by omega)]
    rw [e1, e2] at hk
    rw [e1, h.first n.toNat (by omega) (by omega)]
    omega
end
end Go.Proofs.YtopfbngdbhofkaaGreatDoor

/-
  gimletlaw09.TreeAxes is true.
-/
namespace Go.Proofs.YtopfbngdbhofkaaGreatDoor
open Go.RowKit Go.Shelf

theorem evRow_at2 {w : World} {b B n : Nat} {e : TypeId} {evs : List Ev} {cs : List Value} {base : Nat} (h : w.ownsRow base e 8 (.slice (some ⟨b, 0, none⟩) n n) n cs) (hn : n = evs.length) (hr : EvRow w B n evs cs) : EvsAt w (some ⟨b, 0, none⟩) n evs := by
  refine ⟨hn, fun i hi => ?_⟩
  obtain ⟨A, m, c, h1, h2, _, h4⟩ := hr i hi (by omega)
  exact ⟨b, 0, A, m, c, rfl, (h.lt b rfl).2, h1, h2, fun j hj => by
    rw [Nat.zero_add, h.cellAt _ (by omega), h4 j hj]⟩
theorem IntsAt.cells {w : World} {a : Option Addr} {n : Nat} {l : List Int} (h : IntsAt w a n l) : ∀ ad, a = some ad → ∀ j u, (l.map (Value.int .i64))[j]? = some u → w.cell? (ad.add j) = some u := by
  intro ad ha j u hj
  have hl : j < l.length := by
    have := (List.getElem?_eq_some_iff.1 hj).1
    simpa using this
  obtain ⟨b, o, e, _, hc⟩ := h.at' j hl
  rw [ha] at e
  obtain rfl := Option.some.inj e
  rw [List.getElem?_map, List.getElem?_eq_getElem hl] at hj
  simp only [Option.map_some, Option.some.injEq] at hj
  rw [← hj]
  by_cases h0 : j = 0
  · subst h0; exact hc
  · unfold Addr.add; rw [if_neg h0]; exact hc
theorem IntsAt.none' {w : World} {a : Option Addr} {n : Nat} {l : List Int} (h : IntsAt w a n l) : a = none → n = 0 := by
  intro ha
  cases l with
  | nil => exact h.len
  | cons x l =>
    obtain ⟨b, o, e, _⟩ := h.at' 0 (by simp)
    rw [ha] at e; cases e
theorem own_ints3 {w : World} {base n : Nat} {e : TypeId} {a : Option Addr} {c : Nat} {l : List Int} (h : w.ownsRow base e 1 (.slice a n c) n (l.map (Value.int .i64))) : n ≤ c ∧ IntsAt w a n l := by
  obtain ⟨a', c', e', h1, h2⟩ := own_ints h
  cases e'
  exact ⟨h1, h2⟩
theorem wpList_unguard {P : Program} {ops : Array Oper} {Q : Exit → Act → World → Prop} {a : Act} {w : World} {rest : List Oper} {o : Oper} (h : Region.wanted o (yielded ops a.tmps) = true) (hk : wpList P ops Q ({ o with guard := none } :: rest) a w) : wpList P ops Q (o :: rest) a w := by
  unfold wpList at hk ⊢
  rw [if_pos h]
  rw [if_pos (by simp [Region.wanted])] at hk
  exact hk
theorem ints_one (l : List Int) : ∀ u ∈ l.map (Value.int .i64), u.oneCell' = true := by
  intro u hu
  obtain ⟨x, _, rfl⟩ := List.mem_map.1 hu
  rfl
/-- what the steps come to behind i children -/
def kidsTo (L : Nat) (f : Nat → Nat) (l : List Int) (i : Nat) : List Int := (l.take i).flatMap (withBelow L f)
theorem kidsTo_succ {L : Nat} {f : Nat → Nat} {l : List Int} {i : Nat} (h : i < l.length) : kidsTo L f l (i + 1) = (kidsTo L f l i ++ [l[i]]) ++ alongM L f l[i] 1 := by
  unfold kidsTo
  rw [List.take_succ_eq_append_getElem h, List.flatMap_append]
  simp [withBelow]
theorem kidsTo_len {L : Nat} {f : Nat → Nat} {l : List Int} {i : Nat} : (kidsTo L f l i).length ≤ (l.flatMap (withBelow L f)).length := by
  unfold kidsTo
  have h : l = l.take i ++ l.drop i := (List.take_append_drop i l).symm
  conv => rhs; rw [h, List.flatMap_append, List.length_append]
  omega
theorem desc_get {L : Nat} {f : Nat → Nat} (h : ∀ i, i < L → i ≤ f i ∧ f i < L) {n : Int} (h1 : -1 ≤ n) (h2 : n < L) {q : Nat} (hq : q < (alongM L f n 1).length) : (alongM L f n 1)[q] = n + 1 + (q : Int) := by
  have e := alongM_desc h h1 h2
  have h3 : (alongM L f n 1)[q]? = some (n + 1 + (q : Int)) := by
    rw [e] at hq ⊢
    rw [List.getElem?_eq_getElem hq, rngL_get hq]
    congr 1
    omega
  rw [List.getElem?_eq_getElem hq] at h3
  exact Option.some.inj h3
set_option maxRecDepth 1000000 in
set_option maxHeartbeats 4000000 in
theorem treeAxes_any (a : Option Addr) (n c : Nat) (evs : List Ev) (w : World) (hE : EvsAt w a n evs) (hw : wtEs evs ≤ 1048576) (hR : RangesAt w 2) (hT : Lib.Utf8Tabs 0 1 w) :
    Calls Tryz.prog 4 #[.slice a n c] w fun e w' => e = .returned (.bool true) ∧ Below w.heap.size w w' := by
  have hn : n ≤ 1048576 := by have := wtEs_length evs; have := hE.1; omega
  have hne := hE.1
  have hsm : ∀ e ∈ evs, EvSm e := fun e he => by
    obtain ⟨i, hi, rfl⟩ := List.getElem_of_mem he
    have h1 := Nat.le_trans (wtEs_mem evs i hi) hw
    unfold wtE at h1
    refine ⟨by omega, by omega, by have := wtA_length evs[i].ats; omega, fun p hp => ?_⟩
    have := wtA_mem evs[i].ats p hp
    omega
  have HRT : Hid (∀ W, Below w.heap.size w W → RangesAt W 2 ∧ Lib.Utf8Tabs 0 1 W) := Lib.hid fun W hW => ⟨hR.below hW, Utf8Tabs_below hT hW⟩
  have HAW : Hid (∀ W, Below w.heap.size w W → Calls Tryz.prog 7 #[] W fun e w' => e = .returned (.bool true) ∧ Below W.heap.size W w') := Lib.hid fun W hW => awake_any W (HRT.out W hW).1 (HRT.out W hW).2
  have HCP : Hid (∀ W, Below w.heap.size w W → Calls Tryz.prog 9 #[.slice a n c] W fun e w' => ∃ ge, e = .returned (.slice (some ⟨ge, 0, none⟩) n n) ∧ EvsAt w' (some ⟨ge, 0, none⟩) n evs ∧ Below W.heap.size W w') := Lib.hid fun W hW =>
    (lawCopied_any a n c evs W (hE.below hW) hn (fun e he => (hsm e he).2.2.1)).mono fun e w' ⟨cs, h1, h2, h3, h4⟩ => ⟨_, h1, evRow_at2 h2 hne h3, h4⟩
  have HBD : Hid (∀ W ge, Below w.heap.size w W → EvsAt W (some ⟨ge, 0, none⟩) n evs → Calls Tryz.prog 8 #[.slice (some ⟨ge, 0, none⟩) n n] W fun e w' => ((wholeB evs = true ∧ ∃ tb, e = .returned (.tuple #[.pointer (some ⟨tb, 0, none⟩), .int .i64 0]) ∧ TreeAt w' W.heap.size tb evs) ∨ (wholeB evs = false ∧ e = .returned (.tuple #[.pointer none, .int .i64 6]))) ∧ Below W.heap.size W w') := Lib.hid fun W ge hW hE2 =>
    treeBuild_any _ n n evs W hE2 hn hsm (HRT.out W hW).1 (HRT.out W hW).2
  obtain ⟨j0, hj, hjz0, hjz1, hjz2⟩ := info_parts infoInt
  clear hE hw hR hT hsm hne
  go_enter Tryz.func4, Tryz.ntmps4
  go_wp2_with fail
  (with_reducible refine (HAW.out _ (Below.refl _ _)).mono ?_)
  rintro e w1 ⟨rfl, hb1⟩
  have HB1 := Lib.hid hb1
  clear hb1
  go_wp2_with fail
  (with_reducible refine (HCP.out _ HB1.out).mono ?_)
  rintro e w2 ⟨ge, rfl, hE2, hb2⟩
  have HBD2 := Lib.hid (HBD.out w2 ge (HB1.out.trans (hb2.mono HB1.out.size)) hE2)
  have HB2 := Lib.hid (HB1.out.trans (hb2.mono HB1.out.size))
  clear hb2 hE2
  go_wp2_with fail
  (with_reducible refine HBD2.out.mono ?_)
  rintro e w3 ⟨hor, hb3⟩
  have HB3 := Lib.hid (HB2.out.trans (hb3.mono HB2.out.size))
  clear hb3
  rcases hor with ⟨hwh, tb, rfl, ht⟩ | ⟨_, rfl⟩
  rotate_left
  · go_wp2_with fail
    go_ret
    exact ⟨rfl, HB3.out⟩
  have htl := treeLast ht hwh
  have hrng := lastN_rng (wholeB_some hwh).choose_spec.1
  have HLEN : Hid (∀ W, Below w3.heap.size w3 W → Calls Tryz.prog 10 #[.pointer (some ⟨tb, 0, none⟩)] W fun e w' => e = .returned (.int .i64 ((nodesB evs).length : Nat)) ∧ w' = W) := Lib.hid fun W hW => len_any (htl.keep fun k hk => hW.block k hk.2)
  have HAX := Lib.hid (axF_of hwh)
  have HPA : Hid (∀ W, Below w3.heap.size w3 W → ∀ i, i < (nodesB evs).length → Calls Tryz.prog 14 #[.pointer (some ⟨tb, 0, none⟩), .int .i64 (i : Nat)] W fun e w' => e = .returned (.tuple #[.int .i64 (parN evs i), .int .i64 0]) ∧ w' = W) := Lib.hid fun W hW i hi => by
    have h1 := parent_at tb i _ evs W (ht.below hW) hwh (List.getElem?_eq_getElem hi)
    have h2 : parN evs i = (nodesB evs)[i].par := by unfold parN; rw [List.getElem?_eq_getElem hi]; rfl
    rw [h2]
    exact h1
  have HAL : Hid ((nodesB evs).length ≤ 400 → ∀ W, Below w3.heap.size w3 W → ∀ v x : Int, Calls Tryz.prog 13 #[.pointer (some ⟨tb, 0, none⟩), .int .i64 v, .int .i64 x] W fun e w' => ∃ A m c, e = .returned (.slice A m c) ∧ m = (alongM (nodesB evs).length (lastN evs) v x).length ∧ IntsAt w' A m (alongM (nodesB evs).length (lastN evs) v x) ∧ Below W.heap.size W w') := Lib.hid fun hL W hW v x =>
    (lawAlong_any tb _ _ v x W ((htl.keep fun k hk => hW.block k hk.2).mono fun k hk => Nat.lt_of_lt_of_le hk.2 hW.size) (by omega) hrng (by have := alongM_len (nodesB evs).length (lastN evs) v x; omega)).mono fun e w' ⟨r, h1, h2, h3⟩ => by
      obtain ⟨A, c, rfl, _, h5⟩ := own_ints h2
      exact ⟨A, _, c, h1, rfl, h5, h3⟩
  have HRNG := Lib.hid hrng
  clear ht hwh htl hrng
  generalize lastN evs = f at *
  generalize parN evs = p at *
  generalize (nodesB evs).length = L at *
  have HL0 := Lib.hid (HLEN.out w3 (Below.refl _ _))
  by_cases hL4 : L ≤ 400
  rotate_left
  · have hL : (400 : Int) < (L : Int) := by omega
    go_wp2_with (first | (go_at_call 10; (with_reducible refine HL0.out.mono ?_); rintro e w' ⟨rfl, hw'⟩; subst w'))
    go_ret
    exact ⟨rfl, HB3.out⟩
  have hL : (L : Int) ≤ 400 := by omega
  have HAL := Lib.hid (HAL.out hL4)
  go_wp2_with (first | (go_at_call 10; (with_reducible refine HL0.out.mono ?_); rintro e w' ⟨rfl, hw'⟩; subst w'))
  go_loopw [5] (fun nv wr => ∃ v : Int, nv = .int .i64 v ∧ -1 ≤ v ∧ v ≤ (L : Int) ∧ Hid (Below w3.heap.size w3 wr)) (fun nv _ => ((L : Int) - intOf nv).toNat)
  case atStart => exact ⟨-1, rfl, by omega, by omega, Lib.hid (Below.refl _ _)⟩
  case round =>
    obtain ⟨v, rfl, hv1, hv2, HBR⟩ := hrel
    have HLE := Lib.hid (HLEN.out wr HBR.out)
    by_cases hvL : v < (L : Int)
    · have HA1 := Lib.hid (HAL.out wr HBR.out v 1)
      go_wp2_with (first | (go_at_call 10; (with_reducible refine HLE.out.mono ?_); rintro e w' ⟨rfl, hw'⟩; subst w'))
      (with_reducible refine HA1.out.mono ?_)
      rintro e wa ⟨A1, m1, c1, rfl, hm1, hI1, hba⟩
      have HBA := Lib.hid (HBR.out.trans (hba.mono HBR.out.size))
      have HI1 := Lib.hid hI1
      have HA0 := Lib.hid (HAL.out wa HBA.out v 0)
      have HM1 := Lib.hid hm1
      clear hba hI1 hm1
      go_wp2_with fail
      (with_reducible refine HA0.out.mono ?_)
      rintro e wb ⟨A0, m0, c0, rfl, hm0, hI0, hbb⟩
      have HBB := Lib.hid (HBA.out.trans (hbb.mono HBA.out.size))
      have HI1b := Lib.hid (HI1.out.below hbb)
      have HI0 := Lib.hid hI0
      have HM0 := Lib.hid hm0
      clear hbb hI0 hm0
      go_wp2_with fail
      have hkf := kids_of HAX.out (n := v) hv1 hvL
      obtain ⟨KK, hKK⟩ : ∃ KK, alongM L f v 0 = KK := ⟨_, rfl⟩
      rw [hKK] at hkf HI0 HM0
      have HKF := Lib.hid hkf
      have hkl := alongM_len L f v 1
      have HKL : Hid (∀ i, (kidsTo L f KK i).length ≤ 401) := Lib.hid fun i => by
        have := kidsTo_len (L := L) (f := f) (l := KK) (i := i)
        rw [hkf.2] at this
        omega
      have hm0 : m0 ≤ 401 := by
        have h1 := HM0.out
        have h2 := alongM_len L f v 0
        rw [hKK] at h2
        omega
      clear hkf hKK hkl
      go_loopw [7, 9] (fun sv iv wr => ∃ i : Nat, iv = .int .i64 i ∧ i ≤ m0 ∧ Hid (Below w3.heap.size w3 wr ∧ Below wb.heap.size wb wr ∧ wr.ownsRow wb.heap.size 3 1 sv (kidsTo L f KK i).length ((kidsTo L f KK i).map (Value.int .i64)))) (fun _ iv _ => m0 - (intOf iv).toNat)
      case atStart => exact ⟨0, rfl, Nat.zero_le _, Lib.hid ⟨HBB.out, Below.refl _ _, World.ownsRow_nil _ _ _ _⟩⟩
      case round =>
        obtain ⟨i, rfl, hi, HR⟩ := hrel
        obtain ⟨oa, oc, rfl, _, _, _⟩ := own_slice HR.out.2.2
        obtain ⟨on, hon⟩ : ∃ on, (kidsTo L f KK i).length = on := ⟨_, rfl⟩
        rw [hon] at HR ⊢
        have hon1 : on + 1 ≤ 4294967296 := by have := HKL.out i; omega
        have hon2 : on ≤ 401 := by have := HKL.out i; omega
        have HON := Lib.hid hon
        clear hon
        by_cases him : i < m0
        · have hil : i < KK.length := by have := HM0.out; omega
          obtain ⟨j, hcj, hjL, hpj⟩ := HKF.out.1 KK[i] (List.getElem_mem hil)
          obtain ⟨b, o, rfl, hb, hc⟩ := HI0.out.at' i hil
          rw [hcj] at hc
          have e1 := (HR.out.2.1.cell (p := ⟨b, o + i, none⟩) hb).trans hc
          have i1 : (0 : Int) ≤ (i : Int) := by omega
          have i2 : (i : Int) < (m0 : Int) := by omega
          have ew : IntKind.i64.wrap ((i : Int) + 1) = (i : Int) + 1 := IntWalk.i64_in _ (by omega)
          have hpa := HPA.out _ HR.out.1 j hjL
          rw [hpj] at hpa
          have HPK := Lib.hid hpa
          have HJ := Lib.hid (⟨hcj, hb, hc⟩ : _ ∧ _ ∧ _)
          clear hpa hpj hcj hb hc
          go_wp2_with fail
          (with_reducible refine HPK.out.mono ?_)
          rintro e w' ⟨rfl, hw'⟩
          subst w'
          go_wp2_with (at_builtin; go_must ((refine wpList_app _ (by rfl) _ _ 34 (by rfl) wb.heap.size 3 j0 (.int .i64 0) 1 8 Tryz.underlying34 hj hjz0 hjz1 hjz2 (by rfl) (by decide) (.slice oa on oc) on ((kidsTo L f KK i).map (Value.int .i64)) (by rfl) HR.out.2.2 _ rfl 1 [.int .i64 j] (by rfl) (by rfl) (by intro u hu; simp only [List.mem_cons, List.not_mem_nil, or_false] at hu; subst hu; rfl) hon1 (by decide) HR.out.2.1.size (fun v7 w7 hown7 hap7 => ?_)); have hb7 : Below wb.heap.size wb w7 := (HR.out.2.1.alloc HR.out.2.1.size _).trans (hap7.below (by have := HR.out.2.1.size; simp; omega) (fun k hk => (HR.out.2.2.lt k hk).1)); have e7 := (hb7.cell (p := ⟨b, o + i, none⟩) HJ.out.2.1).trans HJ.out.2.2))
          have hb73 := HBB.out.trans (hb7.mono HBB.out.size)
          have HAJ := Lib.hid (HAL.out w7 hb73 (j : Nat) 1)
          have HW7 := Lib.hid (⟨hb7, hown7⟩ : _ ∧ _)
          clear hb7 hb73 hown7 hap7
          go_wp2_with fail
          (with_reducible refine HAJ.out.mono ?_)
          rintro e w8 ⟨A2, m2, c2, rfl, hm2, hI2, hb8⟩
          obtain ⟨oa7, oc7, rfl, _, _, _⟩ := own_slice HW7.out.2
          have HW8 : Hid (Below wb.heap.size wb w8 ∧ w8.ownsRow wb.heap.size 3 1 (.slice oa7 (on + 1) oc7) (on + 1) ((kidsTo L f KK i).map (Value.int .i64) ++ [.int .i64 (j : Nat)])) := Lib.hid ⟨HW7.out.1.trans (hb8.mono HW7.out.1.size), own_block HW7.out.2 (fun k hk => hb8.block k (HW7.out.2.lt k hk).2)⟩
          have hm2L : m2 ≤ 401 := by have := alongM_len L f (j : Nat) 1; omega
          have HI2 := Lib.hid (⟨hI2, hm2⟩ : _ ∧ _)
          clear hI2 hb8 hm2 e1 e7
          go_wp2_with (at_builtin; go_must ((refine wpList_app_row w8 (by rfl) _ _ 34 (by rfl) wb.heap.size 3 j0 (.int .i64 0) 1 8 Tryz.underlying34 hj hjz0 hjz1 hjz2 (by rfl) (by decide) (.slice oa7 (on + 1) oc7) (on + 1) _ (by rfl) HW8.out.2 A2 m2 c2 ((alongM L f (j : Nat) 1).map (Value.int .i64)) (by rfl) (by rw [List.length_map, HI2.out.2, Nat.mul_one]) (HI2.out.1.cells) (HI2.out.1.none') (ints_one _) (by omega) (by decide) HW8.out.1.size (fun v9 w9 hown9 hap9 => ?_))))
          have hb9 : Below wb.heap.size wb w9 := HW8.out.1.trans (hap9.below HW8.out.1.size (fun k hk => (HW8.out.2.lt k hk).1))
          have hks := kidsTo_succ (L := L) (f := f) hil
          rw [HJ.out.1] at hks
          have hown10 : w9.ownsRow wb.heap.size 3 1 v9 (kidsTo L f KK (i + 1)).length ((kidsTo L f KK (i + 1)).map (Value.int .i64)) := by
            rw [hks]
            simp only [List.map_append, List.length_append, List.map_cons, List.map_nil, List.length_singleton, HON.out]
            rw [← HI2.out.2]
            exact hown9
          have HR9 := Lib.hid (⟨HBB.out.trans (hb9.mono HBB.out.size), hb9, hown10⟩ : _ ∧ _ ∧ _)
          clear hb9 hks hown10 hown9 hap9
          go_wp2_with fail
          go_roundw
          case rel => exact ⟨i + 1, by go_num, by omega, HR9⟩
          case measure => simp [intOf]; omega
        · have him2 : i = m0 := by omega
          subst him2
          have hfull : kidsTo L f KK i = alongM L f v 1 := by
            rw [← HKF.out.2]
            unfold kidsTo
            rw [List.take_of_length_le (by rw [← HM0.out]; exact Nat.le_refl _)]
          have HOW := Lib.hid HR.out.2.2
          rw [hfull] at HOW
          have hlon : (alongM L f v 1).length = on := by rw [← hfull]; exact HON.out
          have hm1 : m1 = on := by rw [HM1.out, hlon]
          subst hm1
          have HC1 : Hid (Calls Tryz.prog 12 #[.slice oa m1 oc, .slice A1 m1 c1] wr fun e w' => e = .returned (.bool true) ∧ Below wr.heap.size wr w') := Lib.hid (by
            refine (lawInts_any oa A1 m1 m1 oc c1 _ _ wr (own_ints3 HOW.out).2 (HI1b.out.below (HR.out.2.1)) (by omega)).mono ?_
            rintro e w' ⟨rfl, hb⟩
            exact ⟨by simp, hb⟩)
          clear hfull hlon
          go_wp2_with fail
          (with_reducible refine HC1.out.mono ?_)
          rintro e wd ⟨rfl, hbd⟩
          have HBD4 : Hid (Below w3.heap.size w3 wd ∧ IntsAt wd A1 m1 (alongM L f v 1)) := Lib.hid ⟨HR.out.1.trans (hbd.mono HR.out.1.size), (HI1b.out.below HR.out.2.1).below hbd⟩
          have HA3 := Lib.hid (HAL.out wd HBD4.out.1 v 3)
          rw [alongM_self hv1 hvL] at HA3
          clear hbd
          go_wp2_with fail
          (with_reducible refine HA3.out.mono ?_)
          rintro e we ⟨A3, m3, c3, rfl, hm3, hI3, hbe⟩
          have hm3' : m3 = 1 := by rw [hm3]; rfl
          subst hm3'
          have HBE : Hid (Below w3.heap.size w3 we ∧ IntsAt we A1 m1 (alongM L f v 1)) := Lib.hid ⟨HBD4.out.1.trans (hbe.mono HBD4.out.1.size), HBD4.out.2.below hbe⟩
          have HC3 : Hid (Calls Tryz.prog 12 #[.slice A3 1 c3, .slice (some ⟨we.heap.size, 0, none⟩) 1 1] (we.alloc (.cells #[.int .i64 v] 3)) fun e w' => e = .returned (.bool true) ∧ Below we.heap.size we w') := Lib.hid (by
            have hal : Below we.heap.size we (we.alloc (.cells #[.int .i64 v] 3)) := (Below.refl _ _).alloc (Nat.le_refl _) _
            have hlit : IntsAt (we.alloc (.cells #[.int .i64 v] 3)) (some ⟨we.heap.size, 0, none⟩) 1 [v] := ⟨rfl, fun i hi => by
              have : i = 0 := by simpa using hi
              subst this
              exact ⟨_, 0, rfl, by simp, (Boxed.new we 3 (.int .i64 v)).cell⟩⟩
            refine (lawInts_any A3 (some ⟨we.heap.size, 0, none⟩) 1 1 c3 1 [v] [v] _ (hI3.below hal) hlit (by omega)).mono ?_
            rintro e w' ⟨rfl, hb⟩
            exact ⟨by simp, hal.trans (hb.mono hal.size)⟩)
          clear hbe hI3 hm3
          go_wp2_with fail
          (with_reducible refine HC3.out.mono ?_)
          rintro e wf ⟨rfl, hbf⟩
          have HBF : Hid (Below w3.heap.size w3 wf ∧ IntsAt wf A1 m1 (alongM L f v 1)) := Lib.hid ⟨HBE.out.1.trans (hbf.mono HBE.out.1.size), HBE.out.2.below hbf⟩
          have HA4 := Lib.hid (HAL.out wf HBF.out.1 v 2)
          rw [alongM_orself HRNG.out hv1 hvL] at HA4
          clear hbf
          go_wp2_with fail
          (with_reducible refine HA4.out.mono ?_)
          rintro e wg ⟨A4, m4, c4, rfl, hm4, hI4, hbg⟩
          have hm4' : m4 = m1 + 1 := by rw [hm4, List.length_cons, HM1.out]
          clear hm4
          subst hm4'
          have HBG : Hid (Below w3.heap.size w3 wg ∧ IntsAt wg A1 m1 (alongM L f v 1) ∧ IntsAt wg A4 (m1 + 1) (v :: alongM L f v 1)) := Lib.hid ⟨HBF.out.1.trans (hbg.mono HBF.out.1.size), HBF.out.2.below hbg, hI4⟩
          have hlit := World.ownsRow_lit (base := wg.heap.size) (e := 3) (size := 1) wg #[.int .i64 v] 1 (by omega) (by unfold maxLen; omega) rfl
          have HLIT := Lib.hid hlit
          have hal : Below wg.heap.size wg (wg.alloc (.cells #[.int .i64 v] 3)) := (Below.refl _ _).alloc (Nat.le_refl _) _
          have HALC := Lib.hid hal
          have HI1g := Lib.hid (HBG.out.2.1.below hal)
          have hmL : m1 ≤ 401 := by have := alongM_len L f v 1; have := HM1.out; omega
          clear hbg hI4 hlit hal
          go_wp2_with (at_builtin; go_must ((refine wpList_unguard (by rfl) ?_; refine wpList_app_row (wg.alloc (.cells #[.int .i64 v] 3)) (by rfl) _ _ 34 (by rfl) wg.heap.size 3 j0 (.int .i64 0) 1 8 Tryz.underlying34 hj hjz0 hjz1 hjz2 (by rfl) (by decide) (.slice (some ⟨wg.heap.size, 0, none⟩) 1 1) 1 _ (by rfl) HLIT.out A1 m1 c1 ((alongM L f v 1).map (Value.int .i64)) (by rfl) (by rw [List.length_map, HM1.out, Nat.mul_one]) (HI1g.out.cells) (HI1g.out.none') (ints_one _) (by omega) (by decide) HALC.out.size (fun v9 w9 hown9 hap9 => ?_))))
          obtain ⟨o9, c9, rfl, _, _, _⟩ := own_slice hown9
          have hb9 : Below wg.heap.size wg w9 := HALC.out.trans (hap9.below HALC.out.size (fun k hk => (HLIT.out.lt k hk).1))
          have HC5 : Hid (Calls Tryz.prog 12 #[.slice A4 (m1 + 1) c4, .slice o9 (m1 + 1) c9] w9 fun e w' => e = .returned (.bool true) ∧ Below w9.heap.size w9 w') := Lib.hid (by
            have hown9' : w9.ownsRow wg.heap.size 3 1 (.slice o9 (m1 + 1) c9) (m1 + 1) ((v :: alongM L f v 1).map (Value.int .i64)) := by
              rw [Nat.add_comm m1 1]; exact hown9
            refine (lawInts_any A4 o9 (m1 + 1) (m1 + 1) c4 c9 _ _ _ (HBG.out.2.2.below hb9) (own_ints3 hown9').2 (by omega)).mono ?_
            rintro e w' ⟨rfl, hb⟩
            exact ⟨by simp, hb⟩)
          have HB9 : Hid (Below w3.heap.size w3 w9 ∧ IntsAt w9 A1 m1 (alongM L f v 1)) := Lib.hid ⟨HBG.out.1.trans (hb9.mono HBG.out.1.size), HBG.out.2.1.below hb9⟩
          clear hb9 hap9 hown9
          rw [Nat.add_comm 1 m1]
          (with_reducible refine HC5.out.mono ?_)
          rintro e wh ⟨rfl, hbh⟩
          have HBH : Hid (Below w3.heap.size w3 wh ∧ IntsAt wh A1 m1 (alongM L f v 1)) := Lib.hid ⟨HB9.out.1.trans (hbh.mono HB9.out.1.size), HB9.out.2.below hbh⟩
          clear hbh
          go_wp2_with fail
          go_loopw [12] (fun iv wr => ∃ q : Nat, iv = .int .i64 q ∧ q ≤ m1 ∧ Hid (Below w3.heap.size w3 wr ∧ IntsAt wr A1 m1 (alongM L f v 1))) (fun iv _ => m1 - (intOf iv).toNat)
          case atStart => exact ⟨0, rfl, Nat.zero_le _, HBH⟩
          case round =>
            obtain ⟨q, rfl, hq, HQ⟩ := hrel
            by_cases hqm : q < m1
            · have hql : q < (alongM L f v 1).length := by have := HM1.out; omega
              obtain ⟨b, o, rfl, hb, hc⟩ := HQ.out.2.at' q hql
              rw [desc_get HRNG.out hv1 hvL hql] at hc
              have i1 : (0 : Int) ≤ (q : Int) := by omega
              have i2 : (q : Int) < (m1 : Int) := by omega
              have ew1 : IntKind.i64.wrap (v + 1) = v + 1 := IntWalk.i64_in _ (by omega)
              have ew2 : IntKind.i64.wrap (v + 1 + (q : Int)) = v + 1 + (q : Int) := IntWalk.i64_in _ (by omega)
              have ew3 : IntKind.i64.wrap ((q : Int) + 1) = (q : Int) + 1 := IntWalk.i64_in _ (by omega)
              go_wp2_with fail
              go_roundw
              case rel => exact ⟨q + 1, by go_num, by omega, HQ⟩
              case measure => simp [intOf]; omega
            · have hq2 : q = m1 := by omega
              subst hq2
              have ew1 : IntKind.i64.wrap (v + 1) = v + 1 := IntWalk.i64_in _ (by omega)
              go_wp2_with fail
              go_roundw
              case rel => exact ⟨v + 1, rfl, by omega, by omega, Lib.hid HQ.out.1⟩
              case measure => simp [intOf]; omega
    · have hvL' : v = (L : Int) := by omega
      go_wp2_with (first | (go_at_call 10; (with_reducible refine HLE.out.mono ?_); rintro e w' ⟨rfl, hw'⟩; subst w'))
      go_ret
      exact ⟨rfl, HB3.out.trans (HBR.out.mono HB3.out.size)⟩
end Go.Proofs.YtopfbngdbhofkaaGreatDoor

/-
  TreeAxes, where what it reads is of bulk at most 1048576: for every such argument the law returns true, and it reads as before: the row's statement and its card. Condition: the bulk bound of the statement itself.
-/
namespace Go.Proofs.YtopfbngdbhofkaaGreatDoor.treeAxes
open Go.ChangeShapes Go.WideShapes Go.ChangeAt Go.RowKit
open Go.ChangeMaps (open_string shut_string)

theorem at_laid {W : World} (hL : laidMetH Tryz.prog Rows.treeAxesUptoRow.laid W) : RangesAt W 2 ∧ Lib.Utf8Tabs 0 1 W := at_laid3 hL

set_option maxRecDepth 100000 in
theorem contract (H : Type) (enc : TypeId × Value → H) (W : World) (base : Nat) (args : Array Value) (ds gs : List (DataW H)) (before : List MemPlace)
    (hval : ∀ (j : Nat) t v, Tryz.f4.params[j]? = some t → args[j]? = some v → Value.okWide Tryz.prog W .any base t v)
    (hW : DataW.Whole enc Tryz.prog Tryz.f4.params.toList Rows.treeAxesSpec.vars false W args.toList ds gs before) (hk : Rows.uptoSmall H (ds ++ gs) = true) (hL : laidMetH Tryz.prog Rows.treeAxesUptoRow.laid W) :
    Calls Tryz.prog 4 args W fun e W' => ∃ v, e = .returned v ∧ Rows.treeAxesSpec.post enc Tryz.prog Tryz.f4 false true false false W args v W' := by
  have hW' := hW
  obtain ⟨p, q, hA0, hV, rfl, hfz, hnd⟩ := hW
  have hA : DataW.TrodAll enc Tryz.prog W 0 (fun _ => true) true Tryz.f4.params.toList args.toList ds p := hA0
  rw [Tryz.params4] at hA hval
  obtain ⟨v0, vs0, d0, ds0, p0, q0, hargs, rfl, rfl, h0, r0⟩ := trodAll_cons hA
  obtain ⟨rfl, rfl, rfl⟩ := trodAll_nil r0
  obtain rfl : args = #[v0] := by cases args; simp_all
  obtain ⟨rfl, rfl⟩ := trodVars_none hV
  obtain ⟨a0, n0, c0, rfl⟩ := okWide_slice Tryz.underlying22 (hval 0 22 v0 rfl rfl)
  have hO0 : EvsAt W a0 n0 (evsOf d0) ∧ wtEs (evsOf d0) ≤ Rows.uptoBulk d0 := by
    obtain ⟨fuel, hf⟩ := h0
    obtain ⟨a9, n9, c9, hcs, hnc, hO, hw⟩ := evs_read hf
    simp [Value.cells] at hcs
    obtain ⟨rfl, rfl, rfl⟩ := hcs
    exact ⟨hO, hw⟩
  clear hA0
  simp only [List.append_nil] at hW' hk
  have hb : Rows.uptoBulkAll [d0] ≤ 1048576 := of_decide_eq_true hk
  simp only [Rows.uptoBulkAll] at hb
  have hbe0 : Rows.uptoBulk d0 ≤ 1048576 := by omega
  have hlt0 : ∀ x ∈ p0, x.block < W.heap.size := fun x hx => hW'.lt x (by simp [hx])
  refine (treeAxes_any a0 n0 c0 (evsOf d0) W hO0.1 (Nat.le_trans hO0.2 hbe0) (at_laid hL).1 (at_laid hL).2).mono fun e W' ⟨he, bel⟩ => ?_
  subst he
  refine ⟨_, rfl, _, _, _, [], p0 ++ [], [], hW', ?_, ?_, rfl, bel.frame _, fun h => by cases h⟩
  · exact trodAll_cons_mk (shut_bool Tryz.underlying4 _) trodAll_mk0
  · exact trodAll_cons_mk (Below.trod laidOut (by kernel_rfl) (of_decide_eq_true (by kernel_rfl)) h0 bel hlt0) trodAll_mk0

theorem reads (os : Os) {H : Type} (enc : TypeId × Value → H) : ∃ places, DataW.whole enc Tryz.prog ((laidWorld3 os).forCall (fun _ _ => 0) ⟨#[], #[.slice none 0 0], []⟩).memory Tryz.f4.params.toList Rows.treeAxesSpec.vars false (#[.slice none 0 0] : Array Value).toList 8 = some ([.nil], [], places) :=
  ⟨[], by kernel_rfl⟩

set_option maxRecDepth 100000 in
theorem lifted (os : Os) (started : os.Started) (H : Type) (enc : TypeId × Value → H) (F : Stop.Interp) :
    ReturnsInHanded {} Tryz.checked os 4 .any ((Rows.OpenSpec.upto Rows.treeAxesSpec).preRow enc Tryz.prog Tryz.f4 Rows.treeAxesUptoRow.domain false Rows.treeAxesUptoRow.laid) (((Rows.OpenSpec.upto Rows.treeAxesSpec).at F).post enc Tryz.prog Tryz.f4 false true false false) := by
  obtain ⟨places, hx⟩ := reads os enc
  refine returnsInHanded_of_row (C := Tryz.checked) (s := Rows.OpenSpec.upto Rows.treeAxesSpec) own' started (by kernel_rfl) Tryz.func4
    (witness_row_atRef (enc := enc) (C := Tryz.checked) false (laidWorld3 os) #[.slice none 0 0] rfl (by kernel_rfl) (by kernel_rfl) (by kernel_rfl)
      (OpenSpec.preRow_of_cond 8 hx (by kernel_rfl) (fun k hk => by cases hk; kernel_rfl) (by kernel_rfl) (laid_met3 os _))) ?_
  intro W base args ds gs before hval hW _ hcond _ hL _ _
  exact contract H enc W base args ds gs before hval hW (hcond _ rfl) hL

theorem proved : Rows.TreeAxesUptoSaid :=
  OpenClaim.holds_of_cond 4 Tryz.f4 rfl rfl rfl rfl rfl rfl rfl ⟨rfl, rfl, rfl, rfl, rfl⟩ rfl rfl rfl rfl rfl (by kernel_rfl) Tryz.func4 (by kernel_rfl)
    (of_decide_eq_true (by kernel_rfl)) (by unfold Func.isWrapper; first | (rw [if_pos (by decide +kernel)]; kernel_rfl) | (rw [if_neg (by decide +kernel)]; exact ⟨rfl, rfl⟩))
    (fun os started H enc _ F => by rw [OpenClaim.pre_eq_preRow]; exact lifted os started H enc F)

theorem plain (f : FuncId) (fn : Func) (hf : Tryz.pinned.checked.prog.funcNamed "gimlet/gimletlaw09.TreeAxes" = some f) (hfn : Tryz.pinned.checked.prog.funcs[f]? = some fn) :
    true = Tryz.pinned.checked.prog.looks [] ∧ ∀ (j : Nat) t, fn.params[j]? = some t → Tryz.pinned.checked.prog.wantsStandIn t = false := by
  obtain rfl : f = 4 := Option.some.inj ((show Tryz.prog.funcNamed "gimlet/gimletlaw09.TreeAxes" = some 4 by kernel_rfl).symm.trans hf) |>.symm
  obtain rfl : fn = Tryz.f4 := (Option.some.inj (Tryz.func4.symm.trans hfn)).symm
  refine ⟨by kernel_rfl, fun j t ht => ?_⟩
  rw [Tryz.params4] at ht
  have hm := Array.mem_of_getElem? ht
  obtain rfl : t = 22 := by simpa using hm
  exact (show Tryz.prog.wantsStandIn 22 = false by kernel_rfl)

theorem card : Rows.TreeAxesUptoCardSaid :=
  Claim7.holds_tied_plain_at .later [] _ _ _ _ proved (fun _ h => by cases h) (by kernel_rfl) (fun _ h => by cases h) treeAxesUpto_row_tie rfl ⟨rfl, rfl⟩ (by kernel_rfl) rfl plain (by kernel_rfl)
#print axioms card
end Go.Proofs.YtopfbngdbhofkaaGreatDoor.treeAxes
