/-
 The plain law of a document's nodes: children, and what is below each.
-/
import Derived.Test.YtgjokdngbocehaaGreatDoorHhC
import Derived.Test.YtgjokdngbocehaaGreatDoorHhA
import Derived.Test.YtgjokdngbocehaaGreatDoorHhD
import Derived.Test.YtgjokdngbocehaaGreatDoorHhE
import Derived.Test.YtgjokdngbocehaaGreatDoorHhL
import Derived.Test.YtgjokdngbocehaaGreatDoorHhJ
import Derived.RangeFuncNested
import Derived.RangeFuncBox
import Derived.RangeFuncLeaves
import Derived.Maps.AppendAt
import Derived.Test.YtgjokdngbocehaaGreatDoorHhK
import Derived.Test.YtgjokdngbocehaaGreatDoorHhN
import Derived.Deep.RegionHeld3
import Derived.Test.YtgjokdngbocehaaGreatDoorHhO
import Derived.Shelf.Abstract
import Derived.WalkKit
import Derived.OwnWalkIn
import Derived.TacticsInMore
import Derived.LoopNIn
import Derived.LoopIn
namespace Go.Proofs.YtgjokdngbocehaaGreatDoor
open Go.RowKit
def isOpn (s : BegS) (i : Int) : Prop := ∃ o ∈ s.opn, o.1 = i
def topOf (l : List (Int × Int × List UInt8)) : Int := (l.head?.map (·.1)).getD (-1)
structure NdAx (s : BegS) (nds : List Nd) : Prop where
 par : ∀ a r, (a :: r) <:+ s.opn → ∃ x, nds[a.1.toNat]? = some x ∧ x.par = topOf r
 first : ∀ (i : Nat) (x y : Nd), nds[i]? = some x → nds[i + 1]? = some y → (isOpn s i ∨ (i : Int) + 1 ≤ x.last) → y.par = (i : Int)
 sib : ∀ (k : Nat) (x y : Nd), nds[k]? = some x → ¬ isOpn s k → nds[(x.last + 1).toNat]? = some y → (x.par = -1 ∨ isOpn s x.par ∨ ∃ p, nds[x.par.toNat]? = some p ∧ x.last + 1 ≤ p.last) → y.par = x.par
 ins : ∀ (k : Nat) (x : Nd), nds[k]? = some x → ¬ isOpn s k → 0 ≤ x.par → ∃ p, nds[x.par.toNat]? = some p ∧ (isOpn s x.par ∨ x.last ≤ p.last)
 top : ∀ (k : Nat) (x : Nd), nds[k]? = some x → ¬ isOpn s k → x.last + 1 = (nds.length : Int) → x.par = topOf s.opn ∨ (0 ≤ x.par ∧ ¬ isOpn s x.par ∧ ∃ p, nds[x.par.toNat]? = some p ∧ p.last + 1 = (nds.length : Int))
 plt : ∀ (k : Nat) (x : Nd), nds[k]? = some x → -1 ≤ x.par ∧ x.par < (k : Int)
 root : ∀ (x : Nd), nds[0]? = some x → x.par = -1
theorem NdAx.start : NdAx beg0 [] :=
 ⟨fun a r h => by simp [beg0] at h, fun i x y h => by simp at h, fun i x y h => by simp at h, fun i x h => by simp at h, fun i x h => by simp at h, fun i x h => by simp at h, fun x h => by simp at h⟩
theorem topOf_lt {pre : List Ev} {s : BegS} {nds : List Nd} (h : NdInv pre s nds) : -1 ≤ topOf s.opn ∧ topOf s.opn < (nds.length : Int) ∧ (topOf s.opn = -1 ∨ isOpn s (topOf s.opn)) := by
 cases ho : s.opn with
 | nil => simp [topOf]; omega
 | cons a r =>
  have ha : a ∈ s.opn := by rw [ho]; exact List.mem_cons_self
  have := h.opn a ha
  have hn := h.nxt
  refine ⟨by simp [topOf]; omega, by simp [topOf]; omega, .inr ⟨a, ha, by simp [topOf]⟩⟩
theorem NdAx.step {pre : List Ev} {s : BegS} {nds : List Nd} {e : Ev} (hi : NdInv pre s nds) (hl : NdLast nds) (h : NdAx s nds) (he : begOk s e = true) : NdAx (begNext s e) (ndNext s nds e) := by
 have hnx := hi.nxt
 by_cases hk : e.kind = 2
 ·have hh := begOk_close he hk
  obtain ⟨rest, hr⟩ : ∃ rest, s.opn = (e.num, e.dep, e.name) :: rest := by
   cases ho : s.opn with
   | nil => rw [ho] at hh; cases hh
   | cons a r => rw [ho] at hh; simp at hh; exact ⟨r, by rw [hh]⟩
  have hnum := hi.opn _ (by rw [hr]; exact List.mem_cons_self)
  simp only at hnum
  have hop : (begNext s e).opn = rest := by unfold begNext; simp [hk, hr]
  have hsrt := hi.srt
  rw [hr] at hsrt
  have hp := List.pairwise_cons.1 hsrt
  have hopn : ∀ i, isOpn s i ↔ i = e.num ∨ isOpn (begNext s e) i := by
   intro i
   unfold isOpn
   rw [hop, hr]
   constructor
   ·rintro ⟨o, ho, rfl⟩
    rcases List.mem_cons.1 ho with rfl | ho
    ·exact .inl rfl
    ·exact .inr ⟨o, ho, rfl⟩
   ·rintro (rfl | ⟨o, ho, rfl⟩)
    ·exact ⟨_, List.mem_cons_self, rfl⟩
    ·exact ⟨o, List.mem_cons_of_mem _ ho, rfl⟩
  have hnot : ¬ isOpn (begNext s e) e.num := by
   rintro ⟨o, ho, hoe⟩
   rw [hop] at ho
   have := hp.1 o ho
   simp only at this
   omega
  have hm : ∀ (n : Nat) (x : Nd), (ndNext s nds e)[n]? = some x → ∃ y, nds[n]? = some y ∧ x.par = y.par ∧ (((n : Int) = e.num ∧ x.last = (nds.length : Int) - 1) ∨ ((n : Int) ≠ e.num ∧ x.last = y.last)) := by
   intro n x hx
   unfold ndNext at hx
   rw [if_pos hk, List.getElem?_modify] at hx
   cases hy : nds[n]? with
   | none => rw [hy] at hx; simp at hx
   | some y =>
    rw [hy] at hx
    by_cases hn : e.num.toNat = n
    ·simp [hn] at hx; subst hx; exact ⟨y, rfl, rfl, .inl ⟨by omega, rfl⟩⟩
    ·simp [hn] at hx; subst hx; exact ⟨y, rfl, rfl, .inr ⟨by omega, rfl⟩⟩
  have hm2 : ∀ (n : Nat) (y : Nd), nds[n]? = some y → ∃ x, (ndNext s nds e)[n]? = some x ∧ x.par = y.par ∧ (((n : Int) = e.num ∧ x.last = (nds.length : Int) - 1) ∨ ((n : Int) ≠ e.num ∧ x.last = y.last)) := by
   intro n y hy
   unfold ndNext
   rw [if_pos hk, List.getElem?_modify, hy]
   by_cases hn : e.num.toNat = n
   ·exact ⟨⟨y.pos, y.par, (nds.length : Int) - 1, s.cnt + 1⟩, by simp [hn], rfl, .inl ⟨by omega, rfl⟩⟩
   ·exact ⟨y, by simp [hn], rfl, .inr ⟨by omega, rfl⟩⟩
  have hlen : (ndNext s nds e).length = nds.length := by unfold ndNext; rw [if_pos hk, List.length_modify]
  obtain ⟨xt, hxt, hxtp⟩ := h.par (e.num, e.dep, e.name) rest (by rw [hr]; exact List.suffix_rfl)
  simp only at hxt
  refine ⟨?_, ?_, ?_, ?_, ?_, ?_, ?_⟩
  ·intro a r hs
   rw [hop] at hs
   obtain ⟨x, hx, hxp⟩ := h.par a r (by rw [hr]; exact hs.trans (List.suffix_cons _ _))
   obtain ⟨x', hx', hp', _⟩ := hm2 _ _ hx
   exact ⟨x', hx', by rw [hp', hxp]⟩
  ·intro i x' y' hx' hy' hc
   obtain ⟨x, hx, hxp, hxl⟩ := hm i x' hx'
   obtain ⟨y, hy, hyp, _⟩ := hm _ y' hy'
   rw [hyp]
   refine h.first i x y hx hy ?_
   rcases hxl with ⟨h1, _⟩ | ⟨_, h2⟩
   ·exact .inl ((hopn _).2 (.inl h1))
   ·rcases hc with hc | hc
    ·exact .inl ((hopn _).2 (.inr hc))
    ·exact .inr (by omega)
  ·intro k x' y' hx' hno hy' hc
   obtain ⟨x, hx, hxp, hxl⟩ := hm k x' hx'
   obtain ⟨y, hy, hyp, _⟩ := hm _ y' hy'
   have hyl := get_lt hy
   rcases hxl with ⟨h1, h2⟩ | ⟨h1, h2⟩
   ·omega
   ·rw [hyp, hxp]
    rw [h2] at hy
    refine h.sib k x y hx ?_ hy ?_
    ·intro hc'
     rcases (hopn _).1 hc' with h3 | h3
     ·exact h1 h3
     ·exact hno h3
    ·rw [hxp] at hc
     rcases hc with hc | hc | ⟨p', hp', hpl⟩
     ·exact .inl hc
     ·exact .inr (.inl ((hopn _).2 (.inr hc)))
     ·obtain ⟨p, hp0, _, hpl0⟩ := hm _ p' hp'
      have hxge := h.plt k x hx
      by_cases hneg : x.par = -1
      ·exact .inl hneg
      rcases hpl0 with ⟨h3, h4⟩ | ⟨h3, h4⟩
      ·exact .inr (.inl ((hopn _).2 (.inl (by omega))))
      ·exact .inr (.inr ⟨p, hp0, by omega⟩)
  ·intro k x' hx' hno h0
   obtain ⟨x, hx, hxp, hxl⟩ := hm k x' hx'
   rw [hxp] at h0 ⊢
   rcases hxl with ⟨h1, h2⟩ | ⟨h1, h2⟩
   ·have hkn : e.num.toNat = k := by omega
    rw [hkn] at hxt
    obtain rfl : xt = x := by rw [hxt] at hx; exact Option.some.inj hx
    cases rest with
    | nil => rw [hxtp] at h0; simp [topOf] at h0
    | cons b r2 =>
     have hb : xt.par = b.1 := by rw [hxtp]; simp [topOf]
     obtain ⟨p, hp1, _⟩ := h.par b r2 (by rw [hr]; exact List.suffix_cons _ _)
     obtain ⟨p', hp', _⟩ := hm2 _ _ hp1
     exact ⟨p', by rw [hb]; exact hp', .inl ⟨b, by rw [hop]; exact List.mem_cons_self, hb.symm⟩⟩
   ·have hno' : ¬ isOpn s k := by
     intro hc'
     rcases (hopn _).1 hc' with h3 | h3
     ·exact h1 h3
     ·exact hno h3
    obtain ⟨p, hp1, hpo⟩ := h.ins k x hx hno' h0
    obtain ⟨p', hp', _, hpl⟩ := hm2 _ _ hp1
    refine ⟨p', hp', ?_⟩
    have hxl := (hl k x hx).2
    rcases hpl with ⟨h3, h4⟩ | ⟨h3, h4⟩
    ·exact .inr (by omega)
    ·rcases hpo with hpo | hpo
     ·rcases (hopn _).1 hpo with h5 | h5
      ·omega
      ·exact .inl h5
     ·exact .inr (by omega)
  ·intro k x' hx' hno hlast
   rw [hlen] at hlast ⊢
   rw [hop]
   obtain ⟨x, hx, hxp, hxl⟩ := hm k x' hx'
   rw [hxp]
   rcases hxl with ⟨h1, h2⟩ | ⟨h1, h2⟩
   ·have hkn : e.num.toNat = k := by omega
    rw [hkn] at hxt
    obtain rfl : xt = x := by rw [hxt] at hx; exact Option.some.inj hx
    exact .inl hxtp
   ·have hno' : ¬ isOpn s k := by
     intro hc'
     rcases (hopn _).1 hc' with h3 | h3
     ·exact h1 h3
     ·exact hno h3
    rcases h.top k x hx hno' (by omega) with h3 | ⟨h3, h4, p, hp1, hp2⟩
    ·have h4 : x.par = e.num := by rw [h3, hr]; simp [topOf]
     obtain ⟨p', hp', _, hpl⟩ := hm2 _ _ hxt
     refine .inr ⟨by omega, by rw [h4]; exact hnot, p', by rw [h4]; exact hp', ?_⟩
     rcases hpl with ⟨_, h6⟩ | ⟨h5, _⟩
     ·omega
     ·omega
    ·obtain ⟨p', hp', _, hpl⟩ := hm2 _ _ hp1
     refine .inr ⟨h3, fun hc => h4 ((hopn _).2 (.inr hc)), p', hp', ?_⟩
     rcases hpl with ⟨h5, _⟩ | ⟨_, h6⟩
     ·exact absurd ((hopn _).2 (.inl (by omega))) h4
     ·omega
  ·intro k x' hx'
   obtain ⟨x, hx, hxp, _⟩ := hm k x' hx'
   rw [hxp]
   exact h.plt k x hx
  ·intro x' hx'
   obtain ⟨x, hx, hxp, _⟩ := hm 0 x' hx'
   rw [hxp]
   exact h.root x hx
 ·obtain ⟨hn, hk01⟩ := begOk_new he hk
  have hnd : ndNext s nds e = nds ++ [⟨s.cnt, topOf s.opn, e.num, s.cnt + 1⟩] := by unfold ndNext; rw [if_neg hk]; rfl
  rw [hnd]
  have htop := topOf_lt hi
  have hopn : ∀ i, isOpn (begNext s e) i ↔ isOpn s i ∨ (e.kind = 0 ∧ i = (nds.length : Int)) := by
   intro i
   unfold isOpn begNext
   simp only [hk, if_false]
   by_cases h0 : e.kind = 0
   ·simp only [h0, if_true, true_and]
    constructor
    ·rintro ⟨o, ho, rfl⟩
     rcases List.mem_cons.1 ho with rfl | ho
     ·exact .inr (by simp only; omega)
     ·exact .inl ⟨o, ho, rfl⟩
    ·rintro (⟨o, ho, rfl⟩ | rfl)
     ·exact ⟨o, List.mem_cons_of_mem _ ho, rfl⟩
     ·exact ⟨_, List.mem_cons_self, by simp only; omega⟩
   ·simp [h0]
  have hlt : ∀ i, isOpn s i → 0 ≤ i ∧ i < (nds.length : Int) := by
   rintro i ⟨o, ho, rfl⟩
   have := hi.opn o ho
   omega
  refine ⟨?_, ?_, ?_, ?_, ?_, ?_, ?_⟩
  ·intro a r hs
   have hs' : (a :: r) <:+ s.opn ∨ (e.kind = 0 ∧ a.1 = e.num ∧ r = s.opn) := by
    unfold begNext at hs
    simp only [hk, if_false] at hs
    by_cases h0 : e.kind = 0
    ·rw [if_pos h0] at hs
     rcases List.suffix_cons_iff.1 hs with h1 | h1
     ·simp only [List.cons.injEq] at h1
      exact .inr ⟨h0, by rw [h1.1], h1.2⟩
     ·exact .inl h1
    ·rw [if_neg h0] at hs; exact .inl hs
   rcases hs' with h1 | ⟨_, h1, rfl⟩
   ·obtain ⟨x, hx, hxp⟩ := h.par a r h1
    exact ⟨x, get_snoc hx, hxp⟩
   ·exact ⟨⟨s.cnt, topOf s.opn, e.num, s.cnt + 1⟩, by rw [show a.1.toNat = nds.length by omega]; exact get_last _ _, rfl⟩
  ·intro i x y hx hy hc
   rcases snoc_get hy with ⟨hil, hy⟩ | ⟨hil, rfl⟩
   ·rcases snoc_get hx with ⟨_, hx⟩ | ⟨hx, _⟩
    ·refine h.first i x y hx hy ?_
     rcases hc with hc | hc
     ·rcases (hopn _).1 hc with h1 | ⟨_, h1⟩
      ·exact .inl h1
      ·omega
     ·exact .inr hc
    ·omega
   ·rcases snoc_get hx with ⟨_, hx⟩ | ⟨hx, _⟩
    ·have hxl := (hl i x hx).2
     rcases hc with hc | hc
     ·rcases (hopn _).1 hc with ⟨o, ho, hoi⟩ | ⟨_, h1⟩
      ·cases hs : s.opn with
       | nil => rw [hs] at ho; cases ho
       | cons b r =>
        have hsrt := hi.srt
        rw [hs] at hsrt
        have hb := hi.opn b (by rw [hs]; exact List.mem_cons_self)
        rw [hs] at ho
        simp only [topOf, List.head?_cons, Option.map_some, Option.getD_some]
        rcases List.mem_cons.1 ho with rfl | ho
        ·exact hoi
        ·have := (List.pairwise_cons.1 hsrt).1 o ho
         omega
      ·omega
     ·omega
    ·omega
  ·intro k x y hx hno hy hc
   rcases snoc_get hx with ⟨hkl, hx⟩ | ⟨hkl, rfl⟩
   ·have hno' : ¬ isOpn s k := fun hc' => hno ((hopn _).2 (.inl hc'))
    have hxl := hl k x hx
    have hxp := h.plt k x hx
    have hcs : x.par = -1 ∨ isOpn s x.par ∨ ∃ p, nds[x.par.toNat]? = some p ∧ x.last + 1 ≤ p.last := by
     rcases hc with hc | hc | ⟨p, hp, hpl⟩
     ·exact .inl hc
     ·rcases (hopn _).1 hc with h1 | ⟨_, h1⟩
      ·exact .inr (.inl h1)
      ·omega
     ·by_cases hneg : x.par = -1
      ·exact .inl hneg
      rcases snoc_get hp with ⟨_, hp⟩ | ⟨hp, _⟩
      ·exact .inr (.inr ⟨p, hp, hpl⟩)
      ·omega
    rcases snoc_get hy with ⟨_, hy⟩ | ⟨hyl, rfl⟩
    ·exact h.sib k x y hx hno' hy hcs
    ·rcases h.top k x hx hno' (by omega) with h1 | ⟨h1, h2, p, hp, hpl⟩
     ·exact h1.symm
     ·rcases hcs with h3 | h3 | ⟨q, hq, hql⟩
      ·omega
      ·exact absurd h3 h2
      ·rw [hp] at hq
       obtain rfl := Option.some.inj hq
       omega
   ·have := get_lt hy
    rw [List.length_append, List.length_singleton] at this
    simp only at this
    omega
  ·intro k x hx hno h0
   rcases snoc_get hx with ⟨hkl, hx⟩ | ⟨hkl, rfl⟩
   ·obtain ⟨p, hp, hpo⟩ := h.ins k x hx (fun hc' => hno ((hopn _).2 (.inl hc'))) h0
    refine ⟨p, get_snoc hp, ?_⟩
    rcases hpo with hpo | hpo
    ·exact .inl ((hopn _).2 (.inl hpo))
    ·exact .inr hpo
   ·simp only at h0 ⊢
    rcases htop.2.2 with h1 | h1
    ·omega
    ·have hlt' : (topOf s.opn).toNat < nds.length := by omega
     exact ⟨_, get_snoc (List.getElem?_eq_getElem hlt'), .inl ((hopn _).2 (.inl h1))⟩
  ·intro k x hx hno hlast
   rw [List.length_append, List.length_singleton] at hlast ⊢
   rcases snoc_get hx with ⟨hkl, hx⟩ | ⟨hkl, rfl⟩
   ·have := hl k x hx
    omega
   ·refine .inl ?_
    have h0 : e.kind ≠ 0 := fun h0 => hno ((hopn _).2 (.inr ⟨h0, by omega⟩))
    unfold begNext
    simp only [hk, h0, if_false]
  ·intro k x hx
   rcases snoc_get hx with ⟨hkl, hx⟩ | ⟨hkl, rfl⟩
   ·exact h.plt k x hx
   ·simp only
    omega
  ·intro x hx
   rcases snoc_get hx with ⟨hkl, hx⟩ | ⟨hkl, rfl⟩
   ·exact h.root x hx
   ·simp only
    omega
theorem NdAx.all {pre : List Ev} {s : BegS} {nds : List Nd} (hi : NdInv pre s nds) (hl : NdLast nds) (h : NdAx s nds) : ∀ (l : List Ev) {t : BegS}, begAll s l = some t → NdAx t (ndAll s nds l) := by
 intro l
 induction l generalizing pre s nds with
 | nil => intro t ht; simp only [begAll, Option.some.injEq] at ht; subst ht; exact h
 | cons e l ih =>
  intro t ht
  unfold begAll at ht
  split at ht
  ·rename_i he
   exact ih (hi.step he) (hl.step hi he) (h.step hi hl he) ht
  ·cases ht
theorem nodesB_ax {l : List Ev} {t : BegS} (h : begAll beg0 l = some t) : NdAx t (nodesB l) :=
 NdAx.all NdInv.start (fun n x hx => by simp at hx) NdAx.start l h
def hiP (L : Nat) (f : Nat → Nat) (n : Int) : Nat := if n < 0 then L else f n.toNat + 1
structure AxF (L : Nat) (f : Nat → Nat) (p : Nat → Int) : Prop where
 rng : ∀ i, i < L → i ≤ f i ∧ f i < L
 root : 0 < L → p 0 = -1
 plt : ∀ k, k < L → -1 ≤ p k ∧ p k < k
 first : ∀ i, i < L → i + 1 ≤ f i → p (i + 1) = i
 sib : ∀ k, k < L → f k + 1 < hiP L f (p k) → p (f k + 1) = p k
 ins : ∀ k, k < L → f k < hiP L f (p k)
end Go.Proofs.YtgjokdngbocehaaGreatDoor
namespace Go.Proofs.YtgjokdngbocehaaGreatDoor
open Go.RowKit
theorem own_ne {w : World} {B B' n n' size size' : Nat} {e e' : TypeId} {v v' : Value} {xs xs' : List Value} (h : w.ownsRow B e size v n xs) (h' : w.ownsRow B' e' size' v' n' xs') (he : e ≠ e') : ∀ k, v.ownBlock = some k → v'.ownBlock ≠ some k := by
 intro k hk hk'
 rcases h.2 with ⟨rfl, _⟩ | ⟨g, cap, cur, rfl, _, hg, _⟩
 ·cases hk
 ·cases hk
  rcases h'.2 with ⟨rfl, _⟩ | ⟨g', cap', cur', rfl, _, hg', _⟩
  ·cases hk'
  ·cases hk'
   rw [hg] at hg'
   cases hg'
   exact he rfl
theorem own_not {w : World} {B n size k : Nat} {e e' : TypeId} {v : Value} {xs : List Value} {c : Array Value} {fz : Nat × Nat} (h : w.ownsRow B e size v n xs) (hk : w.heap[k]? = some (.cells c e' fz)) (he : e ≠ e') : v.ownBlock ≠ some k := by
 intro e
 rcases h.2 with ⟨rfl, _⟩ | ⟨g, cap, cur, rfl, _, hg, _⟩
 ·cases e
 ·cases e
  rw [hk] at hg
  cases hg
  exact he rfl
variable {wc W W' : World} {cb ge n : Nat} {evs : List Ev} {sC sC' s s' : BegS} {nds nds' : List Nd} {vC vC' vN vN' vO vO' : Value}
end Go.Proofs.YtgjokdngbocehaaGreatDoor
namespace Go.Proofs.YtgjokdngbocehaaGreatDoor
open Go.RowKit Go.Shelf
attribute [local go_sem] Oper.semAt_some
def stepsF (g : Nat → Nat) (hi : Nat) : Nat → Nat → List Int
 | 0, _ => []
 | m + 1, k => if k < hi then (k : Int) :: stepsF g hi m (g k) else []
def hiOf (L : Nat) (f : Nat → Nat) (n : Int) : Nat := if n < 0 then L else f n.toNat + 1
def nextOf (f : Nat → Nat) (a : Int) (k : Nat) : Nat := if a = 0 then f k + 1 else k + 1
def alongM (L : Nat) (f : Nat → Nat) (n a : Int) : List Int :=
 if n < -1 ∨ (L : Int) ≤ n ∨ a < 0 ∨ 3 < a then []
 else (if a = 2 ∨ a = 3 then [n] else []) ++ (if a = 3 then [] else stepsF (nextOf f a) (hiOf L f n) L (n + 1).toNat)
end Go.Proofs.YtgjokdngbocehaaGreatDoor
namespace Go.Proofs.YtgjokdngbocehaaGreatDoor
open Go.RowKit Go.Shelf
attribute [local go_sem] Oper.semAt_some
theorem stepsF_at {g : Nat → Nat} {hi m k : Nat} (h : k < hi) (hm : hi ≤ k + m) : stepsF g hi m k = (k : Int) :: stepsF g hi (m - 1) (g k) := by
 cases m with
 | zero => omega
 | succ m => show (if k < hi then (k : Int) :: stepsF g hi m (g k) else []) = _; rw [if_pos h]; rfl
theorem stepsF_end {g : Nat → Nat} {hi m k : Nat} (h : hi ≤ k) : stepsF g hi m k = [] := by
 cases m with
 | zero => rfl
 | succ m => show (if k < hi then (k : Int) :: stepsF g hi m (g k) else []) = _; rw [if_neg (by omega)]
end Go.Proofs.YtgjokdngbocehaaGreatDoor
namespace Go.Proofs.YtgjokdngbocehaaGreatDoor
open Go.RowKit
theorem flat_len {α : Type} (f : α → List UInt8) (N : Nat) (l : List α) (h : ∀ x ∈ l, (f x).length ≤ N) : (l.flatMap f).length ≤ l.length * N := by
 induction l with
 | nil => simp
 | cons x l ih =>
  rw [List.flatMap_cons, List.length_append, List.length_cons, Nat.succ_mul]
  have h1 := h x List.mem_cons_self
  have h2 := ih (fun y hy => h y (List.mem_cons_of_mem _ hy))
  omega
end Go.Proofs.YtgjokdngbocehaaGreatDoor
namespace Go.Proofs.YtgjokdngbocehaaGreatDoor
open Go.RowKit
structure RN where
 pos : Nat
 par : Int
 last : Int
 clo : Int
 val : List UInt8
def rnOpen (e : Ev) (r : RN) : RN := ⟨r.pos, r.par, e.num, r.clo, r.val ++ e.text⟩
def rnClo (k : Int) (r : RN) : RN := ⟨r.pos, r.par, r.last, k, r.val⟩
def rnOpens (e : Ev) : List Int → List RN → List RN
 | [], rs => rs
 | o :: l, rs => rnOpens e l (rs.modify o.toNat (rnOpen e))
def opnsOf (s : BegS) : List Int := s.opn.reverse.map (·.1)
def rnNew (s : BegS) (e : Ev) : RN := ⟨s.cnt, topOf s.opn, e.num, -1, e.text⟩
def rnNext (s : BegS) (rs : List RN) (e : Ev) : List RN :=
 if e.kind = 2 then rs.modify e.num.toNat (rnClo s.cnt)
 else if e.kind = 0 then rnOpens e (opnsOf s) (rs ++ [rnNew s e])
 else (rnOpens e (opnsOf s) (rs ++ [rnNew s e])).modify e.num.toNat (rnClo s.cnt)
def rnAll : BegS → List RN → List Ev → List RN
 | _, rs, [] => rs
 | s, rs, e :: l => rnAll (begNext s e) (rnNext s rs e) l
theorem rnAll_snoc (s : BegS) (rs : List RN) (l : List Ev) (e : Ev) {t : BegS} (h : begAll s l = some t) : rnAll s rs (l ++ [e]) = rnNext t (rnAll s rs l) e := by
 induction l generalizing s rs with
 | nil => simp only [begAll, Option.some.injEq] at h; subst h; rfl
 | cons x l ih =>
  unfold begAll at h
  split at h
  ·exact ih _ _ h
  ·cases h
theorem rnOpens_get (e : Ev) : ∀ (l : List Int) (rs : List RN) (j : Nat), (∀ o ∈ l, 0 ≤ o) → l.Nodup → (rnOpens e l rs)[j]? = (rs[j]?).map (fun r => if (j : Int) ∈ l then rnOpen e r else r)
 | [], rs, j, _, _ => by simp [rnOpens]
 | o :: l, rs, j, h0, hn => by
  have hn' := List.nodup_cons.1 hn
  have ho := h0 o List.mem_cons_self
  unfold rnOpens
  rw [rnOpens_get e l _ j (fun x hx => h0 x (List.mem_cons_of_mem _ hx)) hn'.2, List.getElem?_modify]
  cases hr : rs[j]? with
  | none => simp
  | some r =>
   simp only [Option.map_some]
   by_cases hj : o.toNat = j
   ·have hoj : (j : Int) = o := by omega
    rw [hoj]
    simp [hn'.1, hj]
   ·have hoj : (j : Int) ≠ o := by omega
    simp [hj, hoj]
theorem rnOpens_length (e : Ev) : ∀ (l : List Int) (rs : List RN), (rnOpens e l rs).length = rs.length
 | [], _ => rfl
 | o :: l, rs => by unfold rnOpens; rw [rnOpens_length e l]; simp
theorem rnOpens_snoc (e : Ev) : ∀ (l : List Int) (o : Int) (rs : List RN), rnOpens e (l ++ [o]) rs = (rnOpens e l rs).modify o.toNat (rnOpen e)
 | [], _, _ => rfl
 | x :: l, o, rs => by
  show rnOpens e (l ++ [o]) _ = _
  rw [rnOpens_snoc e l o]
  rfl
theorem modify_two {α : Type} (l : List α) (j : Nat) (f g : α → α) : (l.modify j f).modify j g = l.modify j (fun x => g (f x)) := by
 apply List.ext_getElem?
 intro i
 rw [List.getElem?_modify, List.getElem?_modify, List.getElem?_modify]
 cases l[i]? with
 | none => rfl
 | some x =>
  by_cases h : j = i
  ·simp [h]
  ·simp [h]
theorem nodup_take {l : List Int} (h : l.Nodup) {q : Nat} (hq : q < l.length) : l[q] ∉ l.take q := by
 intro hm
 obtain ⟨i, hi, he⟩ := List.getElem_of_mem hm
 rw [List.length_take] at hi
 rw [List.getElem_take] at he
 exact (List.pairwise_iff_getElem.1 h i q (by omega) hq (by omega)) he
def txO (pre : List Ev) (nds : List Nd) (j : Nat) : List UInt8 := ((nds[j]?.bind fun x => pre[x.pos]?).map (·.text)).getD []
def txsO (pre : List Ev) (nds : List Nd) (i hi : Nat) : List UInt8 := (List.range' i (hi - i)).flatMap (txO pre nds)
theorem txsO_congr {pre pre' : List Ev} {nds nds' : List Nd} {i hi : Nat} (h : ∀ j, i ≤ j → j < hi → txO pre nds j = txO pre' nds' j) : txsO pre nds i hi = txsO pre' nds' i hi := by
 unfold txsO
 have : ∀ (l : List Nat), (∀ j ∈ l, txO pre nds j = txO pre' nds' j) → l.flatMap (txO pre nds) = l.flatMap (txO pre' nds') := by
  intro l hl
  induction l with
  | nil => rfl
  | cons a l ih => rw [List.flatMap_cons, List.flatMap_cons, hl a List.mem_cons_self, ih (fun j hj => hl j (List.mem_cons_of_mem _ hj))]
 refine this _ (fun j hj => ?_)
 rw [List.mem_range'_1] at hj
 exact h j hj.1 (by omega)
theorem txsO_succ (pre : List Ev) (nds : List Nd) {i k : Nat} (h : i ≤ k) : txsO pre nds i (k + 1) = txsO pre nds i k ++ txO pre nds k := by
 unfold txsO
 rw [show k + 1 - i = k - i + 1 by omega, List.range'_concat, List.flatMap_append]
 simp only [List.flatMap_cons, List.flatMap_nil, List.append_nil, Nat.one_mul]
 rw [show i + (k - i) = k by omega]
theorem txsO_nil (pre : List Ev) (nds : List Nd) {i : Nat} : txsO pre nds i i = [] := by unfold txsO; simp
structure RSpec (pre : List Ev) (s : BegS) (nds : List Nd) (rs : List RN) : Prop where
 len : rs.length = nds.length
 at' : ∀ (i : Nat) (x : Nd), nds[i]? = some x → ∃ r, rs[i]? = some r ∧ r.pos = x.pos ∧ r.par = x.par ∧
  (isOpn s i → r.last = (nds.length : Int) - 1 ∧ r.clo = -1 ∧ r.val = txsO pre nds i nds.length) ∧
  (¬ isOpn s i → r.last = x.last ∧ r.clo = (x.fin : Int) - 1 ∧ r.val = txsO pre nds i (x.last.toNat + 1))
theorem RSpec.start : RSpec [] beg0 [] [] := ⟨rfl, fun i x h => by simp at h⟩
theorem opns_nodup {pre : List Ev} {s : BegS} {nds : List Nd} (h : NdInv pre s nds) : (opnsOf s).Nodup ∧ (∀ o ∈ opnsOf s, 0 ≤ o ∧ o < (nds.length : Int)) ∧ ∀ i : Int, i ∈ opnsOf s ↔ isOpn s i := by
 refine ⟨?_, ?_, ?_⟩
 ·unfold opnsOf
  rw [List.Nodup, List.pairwise_map, List.pairwise_reverse]
  exact h.srt.imp (fun hab => by omega)
 ·intro o ho
  unfold opnsOf at ho
  obtain ⟨x, hx, rfl⟩ := List.mem_map.1 ho
  have := h.opn x (List.mem_reverse.1 hx)
  have hn := h.nxt
  omega
 ·intro i
  unfold opnsOf isOpn
  rw [List.mem_map]
  constructor
  ·rintro ⟨x, hx, rfl⟩; exact ⟨x, List.mem_reverse.1 hx, rfl⟩
  ·rintro ⟨x, hx, rfl⟩; exact ⟨x, List.mem_reverse.2 hx, rfl⟩
theorem RSpec.step {pre : List Ev} {s : BegS} {nds : List Nd} {rs : List RN} {e : Ev} (hi : NdInv pre s nds) (hl : NdLast nds) (h : RSpec pre s nds rs) (he : begOk s e = true) : RSpec (pre ++ [e]) (begNext s e) (ndNext s nds e) (rnNext s rs e) := by
 have hnx := hi.nxt
 have hcnt := hi.cnt
 by_cases hk : e.kind = 2
 ·have hh := begOk_close he hk
  obtain ⟨rest, hr⟩ : ∃ rest, s.opn = (e.num, e.dep, e.name) :: rest := by
   cases ho : s.opn with
   | nil => rw [ho] at hh; cases hh
   | cons a r => rw [ho] at hh; simp at hh; exact ⟨r, by rw [hh]⟩
  have hnum := hi.opn _ (by rw [hr]; exact List.mem_cons_self)
  simp only at hnum
  have hop : (begNext s e).opn = rest := by unfold begNext; simp [hk, hr]
  have hsrt := hi.srt
  rw [hr] at hsrt
  have hp := List.pairwise_cons.1 hsrt
  have hopn : ∀ i, isOpn s i ↔ i = e.num ∨ isOpn (begNext s e) i := by
   intro i
   unfold isOpn
   rw [hop, hr]
   constructor
   ·rintro ⟨o, ho, rfl⟩
    rcases List.mem_cons.1 ho with rfl | ho
    ·exact .inl rfl
    ·exact .inr ⟨o, ho, rfl⟩
   ·rintro (rfl | ⟨o, ho, rfl⟩)
    ·exact ⟨_, List.mem_cons_self, rfl⟩
    ·exact ⟨o, List.mem_cons_of_mem _ ho, rfl⟩
  have hnot : ¬ isOpn (begNext s e) e.num := by
   rintro ⟨o, ho, hoe⟩
   rw [hop] at ho
   have := hp.1 o ho
   simp only at this
   omega
  have hlen : (ndNext s nds e).length = nds.length := by unfold ndNext; rw [if_pos hk, List.length_modify]
  have hm : ∀ (n : Nat) (x : Nd), (ndNext s nds e)[n]? = some x → ∃ y, nds[n]? = some y ∧ x.pos = y.pos ∧ x.par = y.par ∧ (((n : Int) = e.num ∧ x.last = (nds.length : Int) - 1 ∧ x.fin = s.cnt + 1) ∨ ((n : Int) ≠ e.num ∧ x.last = y.last ∧ x.fin = y.fin)) := by
   intro n x hx
   unfold ndNext at hx
   rw [if_pos hk, List.getElem?_modify] at hx
   cases hy : nds[n]? with
   | none => rw [hy] at hx; simp at hx
   | some y =>
    rw [hy] at hx
    by_cases hn : e.num.toNat = n
    ·simp [hn] at hx; subst hx; exact ⟨y, rfl, rfl, rfl, .inl ⟨by omega, rfl, rfl⟩⟩
    ·simp [hn] at hx; subst hx; exact ⟨y, rfl, rfl, rfl, .inr ⟨by omega, rfl, rfl⟩⟩
  have htx : ∀ j, txO pre nds j = txO (pre ++ [e]) (ndNext s nds e) j := by
   intro j
   unfold txO
   cases hx : (ndNext s nds e)[j]? with
   | none =>
    have hge := List.getElem?_eq_none_iff.1 hx
    rw [hlen] at hge
    rw [List.getElem?_eq_none hge]
    rfl
   | some x =>
    obtain ⟨y, hy, hpos, _⟩ := hm j x hx
    have hrg := hi.rng j y hy
    rw [hy]
    simp only [Option.bind_some, hpos]
    rw [List.getElem?_append_left (by omega)]
  have hrn : rnNext s rs e = rs.modify e.num.toNat (rnClo s.cnt) := by unfold rnNext; rw [if_pos hk]
  refine ⟨by rw [hrn, List.length_modify, hlen]; exact h.len, fun i x' hx' => ?_⟩
  obtain ⟨x, hx, hpos, hpar, hc⟩ := hm i x' hx'
  obtain ⟨r, hr0, h1, h2, h3, h4⟩ := h.at' i x hx
  rw [hrn, List.getElem?_modify, hr0, hlen]
  rcases hc with ⟨hin, hla, hfi⟩ | ⟨hin, hla, hfi⟩
  ·have hin' : e.num.toNat = i := by omega
   obtain ⟨k1, k2, k3⟩ := h3 ((hopn _).2 (.inl hin))
   refine ⟨rnClo s.cnt r, by simp [hin'], by rw [hpos]; exact h1, by rw [hpar]; exact h2, fun ho => absurd (hin ▸ ho) hnot, fun _ => ⟨by rw [hla]; exact k1, by rw [hfi]; simp [rnClo], ?_⟩⟩
   show r.val = _
   have hil := get_lt hx
   rw [k3, hla, show ((nds.length : Int) - 1).toNat + 1 = nds.length by omega]
   exact txsO_congr (fun j _ _ => htx j)
  ·have hin' : e.num.toNat ≠ i := by omega
   refine ⟨r, by simp [hin'], by rw [hpos]; exact h1, by rw [hpar]; exact h2, fun ho => ?_, fun ho => ?_⟩
   ·obtain ⟨k1, k2, k3⟩ := h3 ((hopn _).2 (.inr ho))
    exact ⟨k1, k2, by rw [k3]; exact txsO_congr (fun j _ _ => htx j)⟩
   ·obtain ⟨k1, k2, k3⟩ := h4 (fun hc => by
     rcases (hopn _).1 hc with h5 | h5
     ·exact hin h5
     ·exact ho h5)
    exact ⟨by rw [hla]; exact k1, by rw [hfi]; exact k2, by rw [k3, hla]; exact txsO_congr (fun j _ _ => htx j)⟩
 ·obtain ⟨hn, hk01⟩ := begOk_new he hk
  have hnd : ndNext s nds e = nds ++ [⟨s.cnt, topOf s.opn, e.num, s.cnt + 1⟩] := by unfold ndNext; rw [if_neg hk]; rfl
  have hopn : ∀ i, isOpn (begNext s e) i ↔ isOpn s i ∨ (e.kind = 0 ∧ i = (nds.length : Int)) := by
   intro i
   unfold isOpn begNext
   simp only [hk, if_false]
   by_cases h0 : e.kind = 0
   ·simp only [h0, if_true, true_and]
    constructor
    ·rintro ⟨o, ho, rfl⟩
     rcases List.mem_cons.1 ho with rfl | ho
     ·exact .inr (by simp only; omega)
     ·exact .inl ⟨o, ho, rfl⟩
    ·rintro (⟨o, ho, rfl⟩ | rfl)
     ·exact ⟨o, List.mem_cons_of_mem _ ho, rfl⟩
     ·exact ⟨_, List.mem_cons_self, by simp only; omega⟩
   ·simp [h0]
  obtain ⟨hnod, hb, hmem⟩ := opns_nodup hi
  have htx : ∀ j, j < nds.length → txO pre nds j = txO (pre ++ [e]) (ndNext s nds e) j := by
   intro j hj
   unfold txO
   rw [hnd, List.getElem?_append_left hj, List.getElem?_eq_getElem hj]
   have hrg := hi.rng j _ (List.getElem?_eq_getElem hj)
   simp only [Option.bind_some]
   rw [List.getElem?_append_left (by omega)]
  have htl : txO (pre ++ [e]) (ndNext s nds e) nds.length = e.text := by
   unfold txO
   rw [hnd, get_last]
   simp only [Option.bind_some, hcnt, get_last, Option.map_some, Option.getD_some]
  have hlen' : (ndNext s nds e).length = nds.length + 1 := by rw [hnd]; simp
  have hget : ∀ j : Nat, (rnOpens e (opnsOf s) (rs ++ [rnNew s e]))[j]? = ((rs ++ [rnNew s e])[j]?).map (fun r => if (j : Int) ∈ opnsOf s then rnOpen e r else r) := fun j => rnOpens_get e _ _ j (fun o ho => (hb o ho).1) hnod
  have hrsl := h.len
  have hfin : ∀ (j : Nat) (r : RN), j < nds.length → (rnOpens e (opnsOf s) (rs ++ [rnNew s e]))[j]? = some r → (rnNext s rs e)[j]? = some r := by
   intro j r hj hr
   unfold rnNext
   rw [if_neg hk]
   split
   ·exact hr
   ·rw [List.getElem?_modify, hr]
    have : e.num.toNat ≠ j := by omega
    simp [this]
  refine ⟨?_, fun i x hx => ?_⟩
  ·rw [hlen']
   unfold rnNext
   rw [if_neg hk]
   split
   ·rw [rnOpens_length]; simp [hrsl]
   ·rw [List.length_modify, rnOpens_length]; simp [hrsl]
  ·rw [hnd] at hx
   rw [hlen']
   rcases snoc_get hx with ⟨hil, hx⟩ | ⟨hil, rfl⟩
   ·obtain ⟨r, hr0, h1, h2, h3, h4⟩ := h.at' i x hx
    have hg := hget i
    rw [List.getElem?_append_left (by omega), hr0] at hg
    simp only [Option.map_some] at hg
    by_cases ho : isOpn s i
    ·rw [if_pos ((hmem _).2 ho)] at hg
     obtain ⟨k1, k2, k3⟩ := h3 ho
     refine ⟨_, hfin i _ hil hg, h1, h2, fun _ => ⟨?_, k2, ?_⟩, fun hno => absurd ((hopn _).2 (.inl ho)) hno⟩
     ·show e.num = _
      omega
     ·show r.val ++ e.text = _
      rw [txsO_succ _ _ (by omega), htl, k3]
      congr 1
      exact txsO_congr (fun j _ hj => htx j hj)
    ·rw [if_neg (fun hc => ho ((hmem _).1 hc))] at hg
     obtain ⟨k1, k2, k3⟩ := h4 ho
     refine ⟨_, hfin i _ hil hg, h1, h2, fun ho' => ?_, fun _ => ⟨k1, k2, ?_⟩⟩
     ·rcases (hopn _).1 ho' with h5 | ⟨_, h5⟩
      ·exact absurd h5 ho
      ·omega
     ·rw [k3]
      have := (hl i x hx)
      exact txsO_congr (fun j _ hj => htx j (by omega))
   ·subst hil
    have hg := hget nds.length
    rw [← hrsl, get_last] at hg
    simp only [Option.map_some] at hg
    rw [if_neg (fun hc => by have := (hb _ hc).2; omega), hrsl] at hg
    have hen : e.num.toNat = nds.length := by omega
    have hv : e.text = txsO (pre ++ [e]) (ndNext s nds e) nds.length (nds.length + 1) := by
     rw [txsO_succ _ _ (Nat.le_refl _), txsO_nil, htl]; rfl
    by_cases h0 : e.kind = 0
    ·refine ⟨rnNew s e, ?_, rfl, rfl, fun _ => ⟨?_, rfl, hv⟩, fun hno => absurd ((hopn _).2 (.inr ⟨h0, rfl⟩)) hno⟩
     ·unfold rnNext
      rw [if_neg hk, if_pos h0]; exact hg
     ·show e.num = _
      omega
    ·refine ⟨rnClo s.cnt (rnNew s e), ?_, rfl, rfl, fun ho => ?_, fun _ => ⟨rfl, ?_, ?_⟩⟩
     ·unfold rnNext
      rw [if_neg hk, if_neg h0, List.getElem?_modify, hg]
      simp [hen]
     ·rcases (hopn _).1 ho with ⟨o, ho', hoe⟩ | ⟨h5, _⟩
      ·have := hi.opn o ho'
       omega
      ·exact absurd h5 h0
     ·show (s.cnt : Int) = ((s.cnt + 1 : Nat) : Int) - 1
      omega
     ·show e.text = _
      rw [hen]
      exact hv
theorem RSpec.all {pre : List Ev} {s : BegS} {nds : List Nd} {rs : List RN} (hi : NdInv pre s nds) (hl : NdLast nds) (h : RSpec pre s nds rs) : ∀ (l : List Ev) {t : BegS}, begAll s l = some t → RSpec (pre ++ l) t (ndAll s nds l) (rnAll s rs l) := by
 intro l
 induction l generalizing pre s nds rs with
 | nil => intro t ht; simp only [begAll, Option.some.injEq] at ht; subst ht; simpa [ndAll, rnAll] using h
 | cons e l ih =>
  intro t ht
  unfold begAll at ht
  split at ht
  ·rename_i he
   have := ih (hi.step he) (hl.step hi he) (h.step hi hl he) ht
   simpa [ndAll, rnAll] using this
  ·cases ht
theorem rnAll_spec {l : List Ev} {t : BegS} (h : begAll beg0 l = some t) : RSpec l t (nodesB l) (rnAll beg0 [] l) := by
 have := RSpec.all NdInv.start (fun n x hx => by simp at hx) RSpec.start l h
 simpa [nodesB] using this
theorem RSpec.val_len {pre : List Ev} {s : BegS} {nds : List Nd} {rs : List RN} (h : RSpec pre s nds rs) (hl : NdLast nds) (ht : ∀ e ∈ pre, e.text.length ≤ 1048576) {i : Nat} {r : RN} (hr : rs[i]? = some r) : r.val.length ≤ nds.length * 1048576 := by
 have htx : ∀ j, (txO pre nds j).length ≤ 1048576 := by
  intro j
  unfold txO
  cases h1 : nds[j]? with
  | none => simp
  | some x =>
   simp only [Option.bind_some]
   cases h2 : pre[x.pos]? with
   | none => simp
   | some e => simp only [Option.map_some, Option.getD_some]; exact ht e (List.mem_of_getElem? h2)
 have hlen : ∀ i hi, hi ≤ nds.length → (txsO pre nds i hi).length ≤ nds.length * 1048576 := by
  intro i hi hh
  unfold txsO
  have := flat_len (txO pre nds) 1048576 (List.range' i (hi - i)) (fun x _ => htx x)
  rw [List.length_range'] at this
  exact Nat.le_trans this (Nat.mul_le_mul_right _ (by omega))
 have hil : i < nds.length := by rw [← h.len]; exact get_lt hr
 obtain ⟨r', hr', _, _, h3, h4⟩ := h.at' i _ (List.getElem?_eq_getElem hil)
 rw [hr] at hr'
 obtain rfl := Option.some.inj hr'
 by_cases ho : isOpn s i
 ·rw [(h3 ho).2.2]; exact hlen _ _ (Nat.le_refl _)
 ·rw [(h4 ho).2.2]
  have := hl i _ (List.getElem?_eq_getElem hil)
  exact hlen _ _ (by omega)
end Go.Proofs.YtgjokdngbocehaaGreatDoor
