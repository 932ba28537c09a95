/-
  The plain law of the nodes of a document's events: where each begins and ends.
-/
import Derived.Deep.Upon
import Derived.RowKit
import Derived.Test.YtgjokdngbocehaaGreatDoorHsA
import Derived.Test.YtgjokdngbocehaaGreatDoorHsC
import Derived.Test.YtgjokdngbocehaaGreatDoorHsD
namespace Go.Proofs.YtgjokdngbocehaaGreatDoor
open Go.RowKit
structure Nd where
 pos:Nat
 par:Int
 last:Int
 fin:Nat
def ndNext (s:BegS) (nds:List Nd) (e:Ev):List Nd :=
 if e.kind = 2 then nds.modify e.num.toNat (fun x=>⟨x.pos,x.par,(nds.length:Int) - 1,s.cnt + 1⟩)
 else nds ++ [⟨s.cnt,(s.opn.head?.map (·.1)).getD (-1),e.num,s.cnt + 1⟩]
def ndAll:BegS → List Nd → List Ev → List Nd
 | _,nds,[]=>nds
 | s,nds,e :: l=>ndAll (begNext s e) (ndNext s nds e) l
def nodesB (l:List Ev):List Nd:=ndAll beg0 [] l
structure NdInv (pre:List Ev) (s:BegS) (nds:List Nd):Prop where
 cnt:s.cnt = pre.length
 nxt:s.next = (nds.length:Int)
 opn:∀ x ∈ s.opn,0 ≤ x.1 ∧ x.1 < s.next
 srt:s.opn.Pairwise (fun a b=>b.1 < a.1)
 here:∀ (n:Nat) (x:Nd),nds[n]? = some x → ∃ e,pre[x.pos]? = some e ∧ e.kind ≠ 2 ∧ e.num = (n:Int)
 beg:∀ (j:Nat) (e:Ev),pre[j]? = some e → e.kind ≠ 2 → 0 ≤ e.num ∧ ∃ x,nds[e.num.toNat]? = some x ∧ x.pos = j
 fin:∀ (j:Nat) (e:Ev),pre[j]? = some e → e.kind ≠ 0 → 0 ≤ e.num ∧ (∀ x ∈ s.opn,x.1 ≠ e.num) ∧ ∃ x,nds[e.num.toNat]? = some x ∧ x.fin = j + 1
 rng:∀ (n:Nat) (x:Nd),nds[n]? = some x → x.pos < x.fin ∧ x.fin ≤ pre.length
theorem NdInv.start:NdInv [] beg0 [] :=
 ⟨rfl,rfl,fun x h=>(by cases h),List.Pairwise.nil,fun n x h=>(by cases h),fun j e h=>(by cases h),fun j e h=>(by cases h),fun n x h=>(by cases h)⟩
theorem snoc_get {α:Type} {l:List α} {x y:α} {j:Nat} (h:(l ++ [x])[j]? = some y):(j < l.length ∧ l[j]? = some y) ∨ (j = l.length ∧ y = x):=by
 rcases Nat.lt_trichotomy j l.length with h1 | h1 | h1
 ·rw [List.getElem?_append_left h1] at h;exact .inl ⟨h1,h⟩
 ·subst h1;simp at h;exact .inr ⟨rfl,h.symm⟩
 ·rw [List.getElem?_append_right (by omega)] at h
  have:([x]:List α)[j - l.length]? = none:=List.getElem?_eq_none (by simp;omega)
  rw [this] at h;cases h
theorem get_lt {α:Type} {l:List α} {y:α} {j:Nat} (h:l[j]? = some y):j < l.length:=(List.getElem?_eq_some_iff.1 h).1
theorem get_snoc {α:Type} {l:List α} {x y:α} {j:Nat} (h:l[j]? = some y):(l ++ [x])[j]? = some y:=by rw [List.getElem?_append_left (get_lt h)];exact h
theorem get_last {α:Type} (l:List α) (x:α):(l ++ [x])[l.length]? = some x:=by simp
theorem begOk_new {s:BegS} {e:Ev} (h:begOk s e = true) (hk:e.kind ≠ 2):e.num = s.next ∧ (e.kind = 0 ∨ e.kind = 1):=by
 unfold begOk at h
 by_cases h0:e.kind = 0
 ·rw [if_pos h0] at h
  simp only [Bool.and_eq_true,decide_eq_true_eq] at h
  exact ⟨h.1.1.2.1,.inl h0⟩
 ·by_cases h1:e.kind = 1
  ·rw [if_neg h0,if_pos h1] at h
   simp only [Bool.and_eq_true,decide_eq_true_eq] at h
   exact ⟨h.1.1.2.1,.inr h1⟩
  ·rw [if_neg h0,if_neg h1,if_neg hk] at h
   cases h
theorem begOk_close {s:BegS} {e:Ev} (h:begOk s e = true) (hk:e.kind = 2):s.opn.head? = some (e.num,e.dep,e.name):=by
 unfold begOk at h
 rw [if_neg (by omega),if_neg (by omega),if_pos hk] at h
 simp only [decide_eq_true_eq] at h
 exact h.2.2
theorem NdInv.step {pre:List Ev} {s:BegS} {nds:List Nd} {e:Ev} (h:NdInv pre s nds) (he:begOk s e = true):NdInv (pre ++ [e]) (begNext s e) (ndNext s nds e):=by
 obtain ⟨h1,h2,h3,h4,h5,h6,h7,h8⟩:=h
 by_cases hk:e.kind = 2
 ·have hh:=begOk_close he hk
  obtain ⟨rest,hr⟩:∃ rest,s.opn = (e.num,e.dep,e.name) :: rest:=by
   cases ho:s.opn with
   | nil=>rw [ho] at hh;cases hh
   | cons a r=>rw [ho] at hh;simp at hh;exact ⟨r,by rw [hh]⟩
  have hnum:=h3 _ (by rw [hr];exact List.mem_cons_self)
  simp only at hnum
  have hm:∀ (n:Nat) (x:Nd),(ndNext s nds e)[n]? = some x → ∃ y,nds[n]? = some y ∧ x.pos = y.pos ∧ (x.fin = s.cnt + 1 ∨ x.fin = y.fin):=by
   intro n x hx
   unfold ndNext at hx
   rw [if_pos hk,List.getElem?_modify] at hx
   cases hy:nds[n]? with
   | none=>rw [hy] at hx;simp at hx
   | some y =>
    rw [hy] at hx
    by_cases hn:e.num.toNat = n
    ·simp [hn] at hx;subst hx;exact ⟨y,rfl,rfl,.inl rfl⟩
    ·simp [hn] at hx;subst hx;exact ⟨y,rfl,rfl,.inr rfl⟩
  have hm2:∀ (n:Nat) (y:Nd),nds[n]? = some y → ∃ x,(ndNext s nds e)[n]? = some x ∧ x.pos = y.pos ∧ (n ≠ e.num.toNat → x.fin = y.fin) ∧ (n = e.num.toNat → x.fin = s.cnt + 1):=by
   intro n y hy
   unfold ndNext
   rw [if_pos hk,List.getElem?_modify,hy]
   by_cases hn:e.num.toNat = n
   ·exact ⟨⟨y.pos,y.par,(nds.length:Int) - 1,s.cnt + 1⟩,by simp [hn],rfl,fun h=>absurd hn.symm h,fun _=>rfl⟩
   ·exact ⟨y,by simp [hn],rfl,fun _=>rfl,fun h=>absurd h.symm hn⟩
  have hlen:(ndNext s nds e).length = nds.length:=by unfold ndNext;rw [if_pos hk,List.length_modify]
  have hnx:(begNext s e).next = s.next:=by unfold begNext;simp [hk]
  have hop:(begNext s e).opn = rest:=by unfold begNext;simp [hk,hr]
  rw [hr] at h4
  have hp:=List.pairwise_cons.1 h4
  refine ⟨by simp [begNext,h1],by rw [hnx,hlen];exact h2,?_,by rw [hop];exact hp.2,?_,?_,?_,?_⟩
  ·intro x hx
   rw [hop] at hx
   rw [hnx]
   exact h3 x (by rw [hr];exact List.mem_cons_of_mem _ hx)
  ·intro n x hx
   obtain ⟨y,hy,hp,_⟩:=hm n x hx
   obtain ⟨e',h',h''⟩:=h5 n y hy
   exact ⟨e',by rw [hp];exact get_snoc h',h''⟩
  ·intro j e' hj hk'
   rcases snoc_get hj with ⟨_,hj⟩ | ⟨_,rfl⟩
   ·obtain ⟨ha,y,hy,hp⟩:=h6 j e' hj hk'
    obtain ⟨x,hx,hxp,_⟩:=hm2 _ y hy
    exact ⟨ha,x,hx,by rw [hxp,hp]⟩
   ·exact absurd hk hk'
  ·intro j e' hj hk'
   rcases snoc_get hj with ⟨_,hj⟩ | ⟨hjl,rfl⟩
   ·obtain ⟨ha,hb,y,hy,hf⟩:=h7 j e' hj hk'
    obtain ⟨x,hx,_,hxf,_⟩:=hm2 _ y hy
    have hne:=hb _ (by rw [hr];exact List.mem_cons_self)
    simp only at hne
    exact ⟨ha,fun z hz=>hb z (by rw [hr];rw [hop] at hz;exact List.mem_cons_of_mem _ hz),x,hx,by rw [hxf (by omega),hf]⟩
   ·have hlt:e'.num.toNat < nds.length:=by omega
    obtain ⟨x,hx,_,_,hxf⟩:=hm2 _ _ (List.getElem?_eq_getElem hlt)
    refine ⟨hnum.1,fun z hz=>?_,x,hx,by rw [hxf rfl,h1,hjl]⟩
    rw [hop] at hz
    have:=hp.1 z hz
    simp only at this
    omega
  ·intro n x hx
   obtain ⟨y,hy,hp,hf⟩:=hm n x hx
   have:=h8 n y hy
   rw [List.length_append,List.length_singleton]
   rcases hf with hf | hf <;> rw [hf,hp] <;> omega
 ·obtain ⟨hn,hk01⟩:=begOk_new he hk
  have hnd:ndNext s nds e = nds ++ [⟨s.cnt,(s.opn.head?.map (·.1)).getD (-1),e.num,s.cnt + 1⟩]:=by unfold ndNext;rw [if_neg hk]
  rw [hnd]
  have hnx:(begNext s e).next = s.next + 1:=by unfold begNext;simp [hk]
  have hen:e.num.toNat = nds.length:=by omega
  have hop:∀ x ∈ (begNext s e).opn,x ∈ s.opn ∨ (e.kind = 0 ∧ x.1 = e.num):=by
   intro x hx
   unfold begNext at hx
   simp only [hk,if_false] at hx
   by_cases h0:e.kind = 0
   ·rw [if_pos h0] at hx
    rcases List.mem_cons.1 hx with rfl | hx
    ·exact .inr ⟨h0,rfl⟩
    ·exact .inl hx
   ·rw [if_neg h0] at hx;exact .inl hx
  refine ⟨by simp [begNext,h1],by rw [hnx,h2];simp,?_,?_,?_,?_,?_,?_⟩
  ·intro x hx
   rw [hnx]
   rcases hop x hx with h | ⟨_,h⟩
   ·have:=h3 x h;omega
   ·omega
  ·unfold begNext
   simp only [hk,if_false]
   by_cases h0:e.kind = 0
   ·rw [if_pos h0]
    exact List.pairwise_cons.2 ⟨fun z hz=>by have:=h3 z hz;simp only;omega,h4⟩
   ·rw [if_neg h0];exact h4
  ·intro n x hx
   rcases snoc_get hx with ⟨_,hx⟩ | ⟨hn',rfl⟩
   ·obtain ⟨e',h',h''⟩:=h5 n x hx
    exact ⟨e',get_snoc h',h''⟩
   ·exact ⟨e,by simp only [h1];exact get_last _ _,hk,by omega⟩
  ·intro j e' hj hk'
   rcases snoc_get hj with ⟨_,hj⟩ | ⟨hjl,rfl⟩
   ·obtain ⟨ha,y,hy,hp⟩:=h6 j e' hj hk'
    exact ⟨ha,y,get_snoc hy,hp⟩
   ·exact ⟨by omega,_,by rw [hen];exact get_last _ _,by simp only;omega⟩
  ·intro j e' hj hk'
   rcases snoc_get hj with ⟨_,hj⟩ | ⟨hjl,rfl⟩
   ·obtain ⟨ha,hb,y,hy,hf⟩:=h7 j e' hj hk'
    refine ⟨ha,fun z hz=>?_,y,get_snoc hy,hf⟩
    rcases hop z hz with h | ⟨_,h⟩
    ·exact hb z h
    ·have:=get_lt hy;omega
   ·refine ⟨by omega,fun z hz=>?_,_,by rw [hen];exact get_last _ _,by simp only;omega⟩
    rcases hop z hz with h | ⟨h,_⟩
    ·have:=h3 z h;omega
    ·exact absurd h hk'
  ·intro n x hx
   rw [List.length_append,List.length_singleton]
   rcases snoc_get hx with ⟨_,hx⟩ | ⟨_,rfl⟩
   ·have:=h8 n x hx;omega
   ·simp only;omega
theorem NdInv.all {pre:List Ev} {s:BegS} {nds:List Nd} (h:NdInv pre s nds):∀ (l:List Ev) {t:BegS},begAll s l = some t → NdInv (pre ++ l) t (ndAll s nds l):=by
 intro l
 induction l generalizing pre s nds with
 | nil=>intro t ht;simp only [begAll,Option.some.injEq] at ht;subst ht;simpa [ndAll] using h
 | cons e l ih =>
  intro t ht
  unfold begAll at ht
  split at ht
  ·rename_i he
   have:=ih (h.step he) ht
   simpa [ndAll] using this
  ·cases ht
theorem nodesB_inv {l:List Ev} {t:BegS} (h:begAll beg0 l = some t):NdInv l t (nodesB l):=by
 have:=NdInv.start.all l h
 unfold nodesB
 simpa using this
theorem begAll_take {s t:BegS} {l:List Ev} (h:begAll s l = some t) (i:Nat):∃ u,begAll s (l.take i) = some u:=by
 have h2:=h
 rw [← List.take_append_drop i l,begAll_app] at h2
 cases h3:begAll s (l.take i) with
 | none=>rw [h3] at h2;cases h2
 | some u=>exact ⟨u,rfl⟩
theorem beg_le:∀ (l:List Ev) (s t:BegS),begAll s l = some t → t.opn.length ≤ s.opn.length + l.length ∧ t.next ≤ s.next + l.length ∧ s.next ≤ t.next ∧ t.cnt = s.cnt + l.length:=by
 intro l
 induction l with
 | nil=>intro s t h;simp only [begAll,Option.some.injEq] at h;subst h;simp
 | cons e l ih =>
  intro s t h
  unfold begAll at h
  split at h
  ·have:=ih _ _ h
   have h1:(begNext s e).opn.length ≤ s.opn.length + 1:=by
    unfold begNext
    simp only
    split
    ·simp
    ·split
     ·simp;omega
     ·omega
   have h2:(begNext s e).next ≤ s.next + 1 ∧ s.next ≤ (begNext s e).next:=by
    unfold begNext
    simp only
    split <;> omega
   have h3:(begNext s e).cnt = s.cnt + 1:=rfl
   simp only [List.length_cons]
   omega
  ·cases h
end Go.Proofs.YtgjokdngbocehaaGreatDoor
namespace Go.Proofs.YtgjokdngbocehaaGreatDoor
open Go.RowKit
def NdLast (nds:List Nd):Prop:=∀ (n:Nat) (x:Nd),nds[n]? = some x → (n:Int) ≤ x.last ∧ x.last < nds.length
theorem NdLast.step {pre:List Ev} {s:BegS} {nds:List Nd} {e:Ev} (hi:NdInv pre s nds) (h:NdLast nds) (he:begOk s e = true):NdLast (ndNext s nds e):=by
 intro n x hx
 by_cases hk:e.kind = 2
 ·have hh:=begOk_close he hk
  obtain ⟨rest,hr⟩:∃ rest,s.opn = (e.num,e.dep,e.name) :: rest:=by
   cases ho:s.opn with
   | nil=>rw [ho] at hh;cases hh
   | cons a r=>rw [ho] at hh;simp at hh;exact ⟨r,by rw [hh]⟩
  have hnum:=hi.opn _ (by rw [hr];exact List.mem_cons_self)
  simp only at hnum
  have hnx:=hi.nxt
  have hlen:(ndNext s nds e).length = nds.length:=by unfold ndNext;rw [if_pos hk,List.length_modify]
  rw [hlen]
  unfold ndNext at hx
  rw [if_pos hk,List.getElem?_modify] at hx
  cases hy:nds[n]? with
  | none=>rw [hy] at hx;simp at hx
  | some y =>
   rw [hy] at hx
   have hnl:=get_lt hy
   by_cases hn:e.num.toNat = n
   ·simp [hn] at hx
    subst hx
    simp only
    omega
   ·simp [hn] at hx
    subst hx
    exact h n y hy
 ·have hnum:=(begOk_new he hk).1
  have hnx:=hi.nxt
  unfold ndNext at hx ⊢
  rw [if_neg hk] at hx ⊢
  rw [List.length_append]
  rcases snoc_get hx with ⟨_,hx⟩ | ⟨rfl,rfl⟩
  ·have:=h n x hx
   simp
   omega
  ·simp
   omega
theorem NdLast.all {pre:List Ev} {s:BegS} {nds:List Nd} (hi:NdInv pre s nds) (h:NdLast nds):∀ (l:List Ev) {t:BegS},begAll s l = some t → NdLast (ndAll s nds l):=by
 intro l
 induction l generalizing pre s nds with
 | nil=>intro t _;exact h
 | cons e l ih =>
  intro t ht
  unfold begAll at ht
  split at ht
  ·rename_i he
   exact ih (hi.step he) (h.step hi he) ht
  ·cases ht
theorem nodesB_last {l:List Ev} {t:BegS} (h:begAll beg0 l = some t):NdLast (nodesB l) :=
 NdLast.all NdInv.start (fun n x hx=>by simp at hx) l h
def lastN (evs:List Ev) (i:Nat):Nat:=((nodesB evs)[i]?.map (·.last.toNat)).getD 0
theorem lastN_rng {l:List Ev} {t:BegS} (h:begAll beg0 l = some t):∀ i,i < (nodesB l).length → i ≤ lastN l i ∧ lastN l i < (nodesB l).length:=by
 intro i hi
 have:=nodesB_last h i _ (List.getElem?_eq_getElem hi)
 unfold lastN
 rw [List.getElem?_eq_getElem hi]
 simp only [Option.map_some,Option.getD_some]
 omega
theorem lastN_at {l:List Ev} {t:BegS} (h:begAll beg0 l = some t) {i:Nat} {x:Nd} (hx:(nodesB l)[i]? = some x):((lastN l i:Nat):Int) = x.last:=by
 have:=nodesB_last h i x hx
 unfold lastN
 rw [hx]
 simp only [Option.map_some,Option.getD_some]
 omega
theorem wholeB_some {l:List Ev} (h:wholeB l = true):∃ t,begAll beg0 l = some t ∧ l ≠ [] ∧ t.opn = []:=by
 unfold wholeB at h
 cases hst:begAll beg0 l with
 | none=>rw [hst] at h;cases h
 | some st=>rw [hst] at h;simp only [decide_eq_true_eq] at h;exact ⟨st,rfl,h⟩
end Go.Proofs.YtgjokdngbocehaaGreatDoor
namespace Go.Proofs.YtgjokdngbocehaaGreatDoor
open Go.RowKit
def isOpn (s:BegS) (i:Int):Prop:=∃ o ∈ s.opn,o.1 = i
def topOf (l:List (Int × Int × List UInt8)):Int:=(l.head?.map (·.1)).getD (-1)
structure NdAx (s:BegS) (nds:List Nd):Prop where
 par:∀ a r,(a :: r) <:+ s.opn → ∃ x,nds[a.1.toNat]? = some x ∧ x.par = topOf r
 first:∀ (i:Nat) (x y:Nd),nds[i]? = some x → nds[i + 1]? = some y → (isOpn s i ∨ (i:Int) + 1 ≤ x.last) → y.par = (i:Int)
 sib:∀ (k:Nat) (x y:Nd),nds[k]? = some x → ¬ isOpn s k → nds[(x.last + 1).toNat]? = some y → (x.par = -1 ∨ isOpn s x.par ∨ ∃ p,nds[x.par.toNat]? = some p ∧ x.last + 1 ≤ p.last) → y.par = x.par
 ins:∀ (k:Nat) (x:Nd),nds[k]? = some x → ¬ isOpn s k → 0 ≤ x.par → ∃ p,nds[x.par.toNat]? = some p ∧ (isOpn s x.par ∨ x.last ≤ p.last)
 top:∀ (k:Nat) (x:Nd),nds[k]? = some x → ¬ isOpn s k → x.last + 1 = (nds.length:Int) → x.par = topOf s.opn ∨ (0 ≤ x.par ∧ ¬ isOpn s x.par ∧ ∃ p,nds[x.par.toNat]? = some p ∧ p.last + 1 = (nds.length:Int))
 plt:∀ (k:Nat) (x:Nd),nds[k]? = some x → -1 ≤ x.par ∧ x.par < (k:Int)
 root:∀ (x:Nd),nds[0]? = some x → x.par = -1
theorem NdAx.start:NdAx beg0 [] :=
 ⟨fun a r h=>by simp [beg0] at h,fun i x y h=>by simp at h,fun i x y h=>by simp at h,fun i x h=>by simp at h,fun i x h=>by simp at h,fun i x h=>by simp at h,fun x h=>by simp at h⟩
theorem topOf_lt {pre:List Ev} {s:BegS} {nds:List Nd} (h:NdInv pre s nds):-1 ≤ topOf s.opn ∧ topOf s.opn < (nds.length:Int) ∧ (topOf s.opn = -1 ∨ isOpn s (topOf s.opn)):=by
 cases ho:s.opn with
 | nil=>simp [topOf];omega
 | cons a r =>
  have ha:a ∈ s.opn:=by rw [ho];exact List.mem_cons_self
  have:=h.opn a ha
  have hn:=h.nxt
  refine ⟨by simp [topOf];omega,by simp [topOf];omega,.inr ⟨a,ha,by simp [topOf]⟩⟩
theorem NdAx.step {pre:List Ev} {s:BegS} {nds:List Nd} {e:Ev} (hi:NdInv pre s nds) (hl:NdLast nds) (h:NdAx s nds) (he:begOk s e = true):NdAx (begNext s e) (ndNext s nds e):=by
 have hnx:=hi.nxt
 by_cases hk:e.kind = 2
 ·have hh:=begOk_close he hk
  obtain ⟨rest,hr⟩:∃ rest,s.opn = (e.num,e.dep,e.name) :: rest:=by
   cases ho:s.opn with
   | nil=>rw [ho] at hh;cases hh
   | cons a r=>rw [ho] at hh;simp at hh;exact ⟨r,by rw [hh]⟩
  have hnum:=hi.opn _ (by rw [hr];exact List.mem_cons_self)
  simp only at hnum
  have hop:(begNext s e).opn = rest:=by unfold begNext;simp [hk,hr]
  have hsrt:=hi.srt
  rw [hr] at hsrt
  have hp:=List.pairwise_cons.1 hsrt
  have hopn:∀ i,isOpn s i ↔ i = e.num ∨ isOpn (begNext s e) i:=by
   intro i
   unfold isOpn
   rw [hop,hr]
   constructor
   ·rintro ⟨o,ho,rfl⟩
    rcases List.mem_cons.1 ho with rfl | ho
    ·exact .inl rfl
    ·exact .inr ⟨o,ho,rfl⟩
   ·rintro (rfl | ⟨o,ho,rfl⟩)
    ·exact ⟨_,List.mem_cons_self,rfl⟩
    ·exact ⟨o,List.mem_cons_of_mem _ ho,rfl⟩
  have hnot:¬ isOpn (begNext s e) e.num:=by
   rintro ⟨o,ho,hoe⟩
   rw [hop] at ho
   have:=hp.1 o ho
   simp only at this
   omega
  have hm:∀ (n:Nat) (x:Nd),(ndNext s nds e)[n]? = some x → ∃ y,nds[n]? = some y ∧ x.par = y.par ∧ (((n:Int) = e.num ∧ x.last = (nds.length:Int) - 1) ∨ ((n:Int) ≠ e.num ∧ x.last = y.last)):=by
   intro n x hx
   unfold ndNext at hx
   rw [if_pos hk,List.getElem?_modify] at hx
   cases hy:nds[n]? with
   | none=>rw [hy] at hx;simp at hx
   | some y =>
    rw [hy] at hx
    by_cases hn:e.num.toNat = n
    ·simp [hn] at hx;subst hx;exact ⟨y,rfl,rfl,.inl ⟨by omega,rfl⟩⟩
    ·simp [hn] at hx;subst hx;exact ⟨y,rfl,rfl,.inr ⟨by omega,rfl⟩⟩
  have hm2:∀ (n:Nat) (y:Nd),nds[n]? = some y → ∃ x,(ndNext s nds e)[n]? = some x ∧ x.par = y.par ∧ (((n:Int) = e.num ∧ x.last = (nds.length:Int) - 1) ∨ ((n:Int) ≠ e.num ∧ x.last = y.last)):=by
   intro n y hy
   unfold ndNext
   rw [if_pos hk,List.getElem?_modify,hy]
   by_cases hn:e.num.toNat = n
   ·exact ⟨⟨y.pos,y.par,(nds.length:Int) - 1,s.cnt + 1⟩,by simp [hn],rfl,.inl ⟨by omega,rfl⟩⟩
   ·exact ⟨y,by simp [hn],rfl,.inr ⟨by omega,rfl⟩⟩
  have hlen:(ndNext s nds e).length = nds.length:=by unfold ndNext;rw [if_pos hk,List.length_modify]
  obtain ⟨xt,hxt,hxtp⟩:=h.par (e.num,e.dep,e.name) rest (by rw [hr];exact List.suffix_rfl)
  simp only at hxt
  refine ⟨?_,?_,?_,?_,?_,?_,?_⟩
  ·intro a r hs
   rw [hop] at hs
   obtain ⟨x,hx,hxp⟩:=h.par a r (by rw [hr];exact hs.trans (List.suffix_cons _ _))
   obtain ⟨x',hx',hp',_⟩:=hm2 _ _ hx
   exact ⟨x',hx',by rw [hp',hxp]⟩
  ·intro i x' y' hx' hy' hc
   obtain ⟨x,hx,hxp,hxl⟩:=hm i x' hx'
   obtain ⟨y,hy,hyp,_⟩:=hm _ y' hy'
   rw [hyp]
   refine h.first i x y hx hy ?_
   rcases hxl with ⟨h1,_⟩ | ⟨_,h2⟩
   ·exact .inl ((hopn _).2 (.inl h1))
   ·rcases hc with hc | hc
    ·exact .inl ((hopn _).2 (.inr hc))
    ·exact .inr (by omega)
  ·intro k x' y' hx' hno hy' hc
   obtain ⟨x,hx,hxp,hxl⟩:=hm k x' hx'
   obtain ⟨y,hy,hyp,_⟩:=hm _ y' hy'
   have hyl:=get_lt hy
   rcases hxl with ⟨h1,h2⟩ | ⟨h1,h2⟩
   ·omega
   ·rw [hyp,hxp]
    rw [h2] at hy
    refine h.sib k x y hx ?_ hy ?_
    ·intro hc'
     rcases (hopn _).1 hc' with h3 | h3
     ·exact h1 h3
     ·exact hno h3
    ·rw [hxp] at hc
     rcases hc with hc | hc | ⟨p',hp',hpl⟩
     ·exact .inl hc
     ·exact .inr (.inl ((hopn _).2 (.inr hc)))
     ·obtain ⟨p,hp0,_,hpl0⟩:=hm _ p' hp'
      have hxge:=h.plt k x hx
      by_cases hneg:x.par = -1
      ·exact .inl hneg
      rcases hpl0 with ⟨h3,h4⟩ | ⟨h3,h4⟩
      ·exact .inr (.inl ((hopn _).2 (.inl (by omega))))
      ·exact .inr (.inr ⟨p,hp0,by omega⟩)
  ·intro k x' hx' hno h0
   obtain ⟨x,hx,hxp,hxl⟩:=hm k x' hx'
   rw [hxp] at h0 ⊢
   rcases hxl with ⟨h1,h2⟩ | ⟨h1,h2⟩
   ·have hkn:e.num.toNat = k:=by omega
    rw [hkn] at hxt
    obtain rfl:xt = x:=by rw [hxt] at hx;exact Option.some.inj hx
    cases rest with
    | nil=>rw [hxtp] at h0;simp [topOf] at h0
    | cons b r2 =>
     have hb:xt.par = b.1:=by rw [hxtp];simp [topOf]
     obtain ⟨p,hp1,_⟩:=h.par b r2 (by rw [hr];exact List.suffix_cons _ _)
     obtain ⟨p',hp',_⟩:=hm2 _ _ hp1
     exact ⟨p',by rw [hb];exact hp',.inl ⟨b,by rw [hop];exact List.mem_cons_self,hb.symm⟩⟩
   ·have hno':¬ isOpn s k:=by
     intro hc'
     rcases (hopn _).1 hc' with h3 | h3
     ·exact h1 h3
     ·exact hno h3
    obtain ⟨p,hp1,hpo⟩:=h.ins k x hx hno' h0
    obtain ⟨p',hp',_,hpl⟩:=hm2 _ _ hp1
    refine ⟨p',hp',?_⟩
    have hxl:=(hl k x hx).2
    rcases hpl with ⟨h3,h4⟩ | ⟨h3,h4⟩
    ·exact .inr (by omega)
    ·rcases hpo with hpo | hpo
     ·rcases (hopn _).1 hpo with h5 | h5
      ·omega
      ·exact .inl h5
     ·exact .inr (by omega)
  ·intro k x' hx' hno hlast
   rw [hlen] at hlast ⊢
   rw [hop]
   obtain ⟨x,hx,hxp,hxl⟩:=hm k x' hx'
   rw [hxp]
   rcases hxl with ⟨h1,h2⟩ | ⟨h1,h2⟩
   ·have hkn:e.num.toNat = k:=by omega
    rw [hkn] at hxt
    obtain rfl:xt = x:=by rw [hxt] at hx;exact Option.some.inj hx
    exact .inl hxtp
   ·have hno':¬ isOpn s k:=by
     intro hc'
     rcases (hopn _).1 hc' with h3 | h3
     ·exact h1 h3
     ·exact hno h3
    rcases h.top k x hx hno' (by omega) with h3 | ⟨h3,h4,p,hp1,hp2⟩
    ·have h4:x.par = e.num:=by rw [h3,hr];simp [topOf]
     obtain ⟨p',hp',_,hpl⟩:=hm2 _ _ hxt
     refine .inr ⟨by omega,by rw [h4];exact hnot,p',by rw [h4];exact hp',?_⟩
     rcases hpl with ⟨_,h6⟩ | ⟨h5,_⟩
     ·omega
     ·omega
    ·obtain ⟨p',hp',_,hpl⟩:=hm2 _ _ hp1
     refine .inr ⟨h3,fun hc=>h4 ((hopn _).2 (.inr hc)),p',hp',?_⟩
     rcases hpl with ⟨h5,_⟩ | ⟨_,h6⟩
     ·exact absurd ((hopn _).2 (.inl (by omega))) h4
     ·omega
  ·intro k x' hx'
   obtain ⟨x,hx,hxp,_⟩:=hm k x' hx'
   rw [hxp]
   exact h.plt k x hx
  ·intro x' hx'
   obtain ⟨x,hx,hxp,_⟩:=hm 0 x' hx'
   rw [hxp]
   exact h.root x hx
 ·obtain ⟨hn,hk01⟩:=begOk_new he hk
  have hnd:ndNext s nds e = nds ++ [⟨s.cnt,topOf s.opn,e.num,s.cnt + 1⟩]:=by unfold ndNext;rw [if_neg hk];rfl
  rw [hnd]
  have htop:=topOf_lt hi
  have hopn:∀ i,isOpn (begNext s e) i ↔ isOpn s i ∨ (e.kind = 0 ∧ i = (nds.length:Int)):=by
   intro i
   unfold isOpn begNext
   simp only [hk,if_false]
   by_cases h0:e.kind = 0
   ·simp only [h0,if_true,true_and]
    constructor
    ·rintro ⟨o,ho,rfl⟩
     rcases List.mem_cons.1 ho with rfl | ho
     ·exact .inr (by simp only;omega)
     ·exact .inl ⟨o,ho,rfl⟩
    ·rintro (⟨o,ho,rfl⟩ | rfl)
     ·exact ⟨o,List.mem_cons_of_mem _ ho,rfl⟩
     ·exact ⟨_,List.mem_cons_self,by simp only;omega⟩
   ·simp [h0]
  have hlt:∀ i,isOpn s i → 0 ≤ i ∧ i < (nds.length:Int):=by
   rintro i ⟨o,ho,rfl⟩
   have:=hi.opn o ho
   omega
  refine ⟨?_,?_,?_,?_,?_,?_,?_⟩
  ·intro a r hs
   have hs':(a :: r) <:+ s.opn ∨ (e.kind = 0 ∧ a.1 = e.num ∧ r = s.opn):=by
    unfold begNext at hs
    simp only [hk,if_false] at hs
    by_cases h0:e.kind = 0
    ·rw [if_pos h0] at hs
     rcases List.suffix_cons_iff.1 hs with h1 | h1
     ·simp only [List.cons.injEq] at h1
      exact .inr ⟨h0,by rw [h1.1],h1.2⟩
     ·exact .inl h1
    ·rw [if_neg h0] at hs;exact .inl hs
   rcases hs' with h1 | ⟨_,h1,rfl⟩
   ·obtain ⟨x,hx,hxp⟩:=h.par a r h1
    exact ⟨x,get_snoc hx,hxp⟩
   ·exact ⟨⟨s.cnt,topOf s.opn,e.num,s.cnt + 1⟩,by rw [show a.1.toNat = nds.length by omega];exact get_last _ _,rfl⟩
  ·intro i x y hx hy hc
   rcases snoc_get hy with ⟨hil,hy⟩ | ⟨hil,rfl⟩
   ·rcases snoc_get hx with ⟨_,hx⟩ | ⟨hx,_⟩
    ·refine h.first i x y hx hy ?_
     rcases hc with hc | hc
     ·rcases (hopn _).1 hc with h1 | ⟨_,h1⟩
      ·exact .inl h1
      ·omega
     ·exact .inr hc
    ·omega
   ·rcases snoc_get hx with ⟨_,hx⟩ | ⟨hx,_⟩
    ·have hxl:=(hl i x hx).2
     rcases hc with hc | hc
     ·rcases (hopn _).1 hc with ⟨o,ho,hoi⟩ | ⟨_,h1⟩
      ·cases hs:s.opn with
       | nil=>rw [hs] at ho;cases ho
       | cons b r =>
        have hsrt:=hi.srt
        rw [hs] at hsrt
        have hb:=hi.opn b (by rw [hs];exact List.mem_cons_self)
        rw [hs] at ho
        simp only [topOf,List.head?_cons,Option.map_some,Option.getD_some]
        rcases List.mem_cons.1 ho with rfl | ho
        ·exact hoi
        ·have:=(List.pairwise_cons.1 hsrt).1 o ho
         omega
      ·omega
     ·omega
    ·omega
  ·intro k x y hx hno hy hc
   rcases snoc_get hx with ⟨hkl,hx⟩ | ⟨hkl,rfl⟩
   ·have hno':¬ isOpn s k:=fun hc'=>hno ((hopn _).2 (.inl hc'))
    have hxl:=hl k x hx
    have hxp:=h.plt k x hx
    have hcs:x.par = -1 ∨ isOpn s x.par ∨ ∃ p,nds[x.par.toNat]? = some p ∧ x.last + 1 ≤ p.last:=by
     rcases hc with hc | hc | ⟨p,hp,hpl⟩
     ·exact .inl hc
     ·rcases (hopn _).1 hc with h1 | ⟨_,h1⟩
      ·exact .inr (.inl h1)
      ·omega
     ·by_cases hneg:x.par = -1
      ·exact .inl hneg
      rcases snoc_get hp with ⟨_,hp⟩ | ⟨hp,_⟩
      ·exact .inr (.inr ⟨p,hp,hpl⟩)
      ·omega
    rcases snoc_get hy with ⟨_,hy⟩ | ⟨hyl,rfl⟩
    ·exact h.sib k x y hx hno' hy hcs
    ·rcases h.top k x hx hno' (by omega) with h1 | ⟨h1,h2,p,hp,hpl⟩
     ·exact h1.symm
     ·rcases hcs with h3 | h3 | ⟨q,hq,hql⟩
      ·omega
      ·exact absurd h3 h2
      ·rw [hp] at hq
       obtain rfl:=Option.some.inj hq
       omega
   ·have:=get_lt hy
    rw [List.length_append,List.length_singleton] at this
    simp only at this
    omega
  ·intro k x hx hno h0
   rcases snoc_get hx with ⟨hkl,hx⟩ | ⟨hkl,rfl⟩
   ·obtain ⟨p,hp,hpo⟩:=h.ins k x hx (fun hc'=>hno ((hopn _).2 (.inl hc'))) h0
    refine ⟨p,get_snoc hp,?_⟩
    rcases hpo with hpo | hpo
    ·exact .inl ((hopn _).2 (.inl hpo))
    ·exact .inr hpo
   ·simp only at h0 ⊢
    rcases htop.2.2 with h1 | h1
    ·omega
    ·have hlt':(topOf s.opn).toNat < nds.length:=by omega
     exact ⟨_,get_snoc (List.getElem?_eq_getElem hlt'),.inl ((hopn _).2 (.inl h1))⟩
  ·intro k x hx hno hlast
   rw [List.length_append,List.length_singleton] at hlast ⊢
   rcases snoc_get hx with ⟨hkl,hx⟩ | ⟨hkl,rfl⟩
   ·have:=hl k x hx
    omega
   ·refine .inl ?_
    have h0:e.kind ≠ 0:=fun h0=>hno ((hopn _).2 (.inr ⟨h0,by omega⟩))
    unfold begNext
    simp only [hk,h0,if_false]
  ·intro k x hx
   rcases snoc_get hx with ⟨hkl,hx⟩ | ⟨hkl,rfl⟩
   ·exact h.plt k x hx
   ·simp only
    omega
  ·intro x hx
   rcases snoc_get hx with ⟨hkl,hx⟩ | ⟨hkl,rfl⟩
   ·exact h.root x hx
   ·simp only
    omega
theorem NdAx.all {pre:List Ev} {s:BegS} {nds:List Nd} (hi:NdInv pre s nds) (hl:NdLast nds) (h:NdAx s nds):∀ (l:List Ev) {t:BegS},begAll s l = some t → NdAx t (ndAll s nds l):=by
 intro l
 induction l generalizing pre s nds with
 | nil=>intro t ht;simp only [begAll,Option.some.injEq] at ht;subst ht;exact h
 | cons e l ih =>
  intro t ht
  unfold begAll at ht
  split at ht
  ·rename_i he
   exact ih (hi.step he) (hl.step hi he) (h.step hi hl he) ht
  ·cases ht
theorem nodesB_ax {l:List Ev} {t:BegS} (h:begAll beg0 l = some t):NdAx t (nodesB l) :=
 NdAx.all NdInv.start (fun n x hx=>by simp at hx) NdAx.start l h
def hiP (L:Nat) (f:Nat → Nat) (n:Int):Nat:=if n < 0 then L else f n.toNat + 1
structure AxF (L:Nat) (f:Nat → Nat) (p:Nat → Int):Prop where
 rng:∀ i,i < L → i ≤ f i ∧ f i < L
 root:0 < L → p 0 = -1
 plt:∀ k,k < L → -1 ≤ p k ∧ p k < k
 first:∀ i,i < L → i + 1 ≤ f i → p (i + 1) = i
 sib:∀ k,k < L → f k + 1 < hiP L f (p k) → p (f k + 1) = p k
 ins:∀ k,k < L → f k < hiP L f (p k)
end Go.Proofs.YtgjokdngbocehaaGreatDoor
namespace Go.Proofs.YtgjokdngbocehaaGreatDoor
open Go.RowKit
theorem own_slice {w:World} {base:Nat} {e:TypeId} {size:Nat} {v:Value} {n:Nat} {xs:List Value} (h:w.ownsRow base e size v n xs) :
  ∃ a c,v = .slice a n c ∧ n ≤ c ∧ (a = none → n = 0) ∧ ∀ ad,a = some ad → ∃ g,ad = ⟨g,0,none⟩ ∧ base ≤ g ∧ g < w.heap.size ∧ w.frozen? ⟨g,0,none⟩ = false ∧ ∀ j u,xs[j]? = some u → w.cell? ⟨g,j,none⟩ = some u:=by
 have hc:=fun g hg=>h.cells (g:=g) hg
 have hl:=h.lt
 have h0:=h
 obtain ⟨h1,h2⟩:=h
 rcases h2 with ⟨rfl,rfl⟩ | ⟨g,cap,cur,rfl,hg,hh,h5,r⟩
 ·exact ⟨none,0,rfl,Nat.le_refl _,fun _=>rfl,fun ad h=>by cases h⟩
 ·refine ⟨_,cap,rfl,h5,fun h=>(by cases h),fun ad he=>⟨g,(by cases he;rfl),hg,(hl g rfl).2,frozen_heap hh,fun j u hj=>?_⟩⟩
  have:=hc g rfl j u hj
  unfold Addr.add at this
  split at this
  ·rename_i h;subst h;exact this
  ·simpa using this
theorem own_some {w:World} {base:Nat} {e:TypeId} {size:Nat} {v:Value} {n:Nat} {xs:List Value} (h:w.ownsRow base e size v (n + 1) xs) :
  ∃ g c,v = .slice (some ⟨g,0,none⟩) (n + 1) c ∧ n + 1 ≤ c ∧ base ≤ g ∧ g < w.heap.size ∧ w.frozen? ⟨g,0,none⟩ = false ∧ ∀ j u,xs[j]? = some u → w.cell? ⟨g,j,none⟩ = some u:=by
 obtain ⟨a,c,rfl,h1,h2,h3⟩:=own_slice h
 cases a with
 | none=>have:=h2 rfl;omega
 | some ad =>
  obtain ⟨g,rfl,h4⟩:=h3 _ rfl
  exact ⟨g,c,rfl,h1,h4⟩
theorem own_pop {w:World} {base:Nat} {e:TypeId} {size:Nat} {g c n:Nat} {xs ys:List Value} (h:w.ownsRow base e size (.slice (some ⟨g,0,none⟩) (n + 1) c) (n + 1) (xs ++ ys)) (hx:xs.length = n * size) :
  w.ownsRow base e size (.slice (some ⟨g,0,none⟩) n c) n xs:=by
 obtain ⟨h1,h2⟩:=h
 rcases h2 with ⟨h0,_⟩ | ⟨g',cap',cur,hv,hg,hh,hn,hcap,hsz,htake⟩
 ·cases h0
 ·cases hv
  refine ⟨hx,.inr ⟨g,c,cur,rfl,hg,hh,by omega,hcap,hsz,?_⟩⟩
  have h3:(cur.toList.take ((n + 1) * size)).take (n * size) = (xs ++ ys).take (n * size):=by rw [htake]
  rw [List.take_take,Nat.min_eq_left (Nat.mul_le_mul_right _ (by omega))] at h3
  rw [h3,← hx,List.take_left']
  rfl
end Go.Proofs.YtgjokdngbocehaaGreatDoor
namespace Go.Proofs.YtgjokdngbocehaaGreatDoor
open Go.RowKit
theorem extU (l:List UInt8) (i j:Nat):(strU l).extract i j = strU ((l.drop i).take (j - i)):=by rw [strU,ByteArray.extract_mk];rfl
theorem cmpU_eq {a b:List UInt8} (h:a = b):((strU a).toList == (strU b).toList) = true:=by rw [h];simp
theorem strU_toList (l:List UInt8):(strU l).toList = l:=by rw [ByteArray.toList_eq];simp [strU]
theorem cmpU_ne {a b:List UInt8} (h:a ≠ b):((strU a).toList == (strU b).toList) = false:=by rw [strU_toList,strU_toList];simpa using h
theorem strU_empty (l:List UInt8):(strU l).toList.isEmpty = l.isEmpty:=by
 rw [ByteArray.toList_eq]
 simp [strU]
end Go.Proofs.YtgjokdngbocehaaGreatDoor
namespace Go.Proofs.YtgjokdngbocehaaGreatDoor
open Go.RowKit
theorem sl_new {w:World} {g:Nat} {l:List UInt8} {e:TypeId} {p:Nat × Nat} (h:w.heap[g]? = some (.cells (u8s l).toArray e p)):Sl w (some ⟨g,0,none⟩) l.length (u8s l) :=
 ⟨(u8s_length l).symm,fun i hi=>⟨g,0,rfl,heap_lt h,by rw [cell_heap h,Nat.zero_add];simp [hi]⟩⟩
end Go.Proofs.YtgjokdngbocehaaGreatDoor
namespace Go.Proofs.YtgjokdngbocehaaGreatDoor
open Go.RowKit
def evL (e:Ev) (A:Option Addr) (m c:Nat):List Value:=(evC e.kind e.num e.dep e.name A m c e.text e.fr e.tt).toList
def wtEs (l:List Ev):Nat:=(l.map wtE).sum
theorem wtE_pos (e:Ev):1 ≤ wtE e:=by unfold wtE;omega
theorem wtEs_length (l:List Ev):l.length ≤ wtEs l:=by
 induction l with
 | nil=>simp [wtEs]
 | cons x r ih=>have:=wtE_pos x;simp only [wtEs,List.map_cons,List.sum_cons,List.length_cons] at *;omega
theorem wtEs_mem (l:List Ev) (i:Nat) (h:i < l.length):wtE l[i] ≤ wtEs l:=by
 induction l generalizing i with
 | nil=>simp at h
 | cons x r ih =>
  simp only [wtEs,List.map_cons,List.sum_cons]
  rcases i with _ | i
  ·simp only [List.getElem_cons_zero];omega
  ·have:=ih i (by simpa using h);simp only [List.getElem_cons_succ];simp only [wtEs] at this;omega
def EvsAt (w:World) (a:Option Addr) (n:Nat) (evs:List Ev):Prop :=
 n = evs.length ∧ ∀ i,(h:i < evs.length) → ∃ b o A m c,a = some ⟨b,o,none⟩ ∧ b < w.heap.size ∧ m ≤ c ∧ AttrsAt w A m evs[i].ats ∧ ∀ j,j < 8 → w.cell? ⟨b,o + i * 8 + j,none⟩ = (evL evs[i] A m c)[j]?
theorem EvsAt.below {w w':World} {a:Option Addr} {n:Nat} {evs:List Ev} (h:EvsAt w a n evs) (hb:Below w.heap.size w w'):EvsAt w' a n evs :=
 ⟨h.1,fun i hi=>by
  obtain ⟨b,o,A,m,c,e,hlt,hmc,hA,hc⟩:=h.2 i hi
  exact ⟨b,o,A,m,c,e,Nat.lt_of_lt_of_le hlt hb.size,hmc,hA.below hb,fun j hj=>(hb.cell (p:=⟨b,o + i * 8 + j,none⟩) hlt).trans (hc j hj)⟩⟩
section
variable {H:Type} {enc:TypeId × Value → H} {w:World} {base:Nat} {sp:Nat → Bool} {held:Bool} {fuel:Nat}
def evsOf:DataW H → List Ev
 | .slice l _=>l.map evOf
 | _=>[]
theorem wtEs_le (l:List (DataW H)) (h:∀ i,(hi:i < l.length) → wtE (evOf l[i]) ≤ Rows.uptoBulk l[i]):wtEs (l.map evOf) ≤ Rows.uptoBulkAll l:=by
 induction l with
 | nil=>simp [wtEs,Rows.uptoBulkAll]
 | cons x r ih =>
  have h0:=h 0 (by simp)
  have:=ih (fun i hi=>by have:=h (i + 1) (by simpa using hi);simpa using this)
  simp only [wtEs,List.map_cons,List.sum_cons,Rows.uptoBulkAll,List.getElem_cons_zero] at *
  omega
theorem evs_read {cs:List Value} {x:DataW H × List MemPlace} (h:DataW.trod enc Tryz.prog w base sp held fuel 22 cs = some x) :
  ∃ a n c,cs = [.slice a n c] ∧ n ≤ c ∧ EvsAt w a n (evsOf x.1) ∧ wtEs (evsOf x.1) ≤ Rows.uptoBulk x.1:=by
 obtain ⟨a,n,c,elems,rfl,hnc,hel,hx,hat⟩:=slice_read Tryz.underlying22 cellsEv (by decide) h
 have hw:=wtEs_le (elems.map (·.1)) (fun i hi=>by
  rw [List.length_map] at hi
  obtain ⟨_,_,m,ecs,_,_,_,_,hr⟩:=hat i hi
  rw [List.getElem_map]
  exact (event_read hr).2.1)
 have key:EvsAt w a n (elems.map fun e=>evOf e.1):=by
  refine ⟨by rw [List.length_map,hel],fun i hi=>?_⟩
  rw [List.length_map] at hi
  obtain ⟨b,o,m,ecs,e,hb,_,hc,hr⟩:=hat i hi
  obtain ⟨⟨A,m',c',hcs,hmc,hA⟩,_⟩:=event_read hr
  rw [List.getElem_map]
  exact ⟨b,o,A,m',c',e,hb,hmc,hA,fun j hj=>by rw [hc j hj,hcs];rfl⟩
 refine ⟨a,n,c,rfl,hnc,?_⟩
 rcases hx with rfl | ⟨rest,hx⟩
 ·obtain rfl:n = 0:=by simpa using hel.symm
  rcases DataW.trod_slice Tryz.underlying22 h with ⟨_,hx⟩ | ⟨a2,len,cap,elems,rest,m,_,e,hx,_,_,_,hel2,_,_,_⟩
  ·rw [hx];exact ⟨⟨rfl,fun i hi=>by simp [evsOf] at hi⟩,by simp [evsOf,wtEs]⟩
  ·simp at e
   have:elems = []:=List.eq_nil_of_length_eq_zero (by omega)
   subst this
   rw [hx];exact ⟨⟨rfl,fun i hi=>by simp [evsOf] at hi⟩,by simp [evsOf,wtEs]⟩
 ·rw [hx]
  simp only [evsOf,List.map_map] at hw ⊢
  refine ⟨key,?_⟩
  simp only [Rows.uptoBulk]
  have e:(List.map (evOf ∘ fun x=>x.1) elems) = elems.map fun e=>evOf e.1:=rfl
  omega
end
end Go.Proofs.YtgjokdngbocehaaGreatDoor
namespace Go.Proofs.YtgjokdngbocehaaGreatDoor
open Go.RowKit
theorem add_cell (b o j:Nat):(⟨b,o,none⟩:Addr).add j = ⟨b,o + j,none⟩:=by
 unfold Addr.add
 split
 ·rename_i h;subst h;rfl
 ·rfl
end Go.Proofs.YtgjokdngbocehaaGreatDoor
namespace Go.Proofs.YtgjokdngbocehaaGreatDoor
open Go.RowKit
theorem EvsAt.at8 {w:World} {a:Option Addr} {n:Nat} {evs:List Ev} (h:EvsAt w a n evs) (i:Nat) (hi:i < evs.length) :
  ∃ b o A m c,a = some ⟨b,o,none⟩ ∧ b < w.heap.size ∧ m ≤ c ∧ AttrsAt w A m evs[i].ats ∧ ∀ W,Below w.heap.size w W →
   W.cell? ⟨b,o + i * 8,none⟩ = some (.int .i64 evs[i].kind) ∧ W.cell? ⟨b,o + i * 8 + 1,none⟩ = some (.int .i64 evs[i].num) ∧ W.cell? ⟨b,o + i * 8 + 2,none⟩ = some (.int .i64 evs[i].dep) ∧ W.cell? ⟨b,o + i * 8 + 3,none⟩ = some (.string (strL evs[i].name)) ∧
   W.cell? ⟨b,o + i * 8 + 4,none⟩ = some (.slice A m c) ∧ W.cell? ⟨b,o + i * 8 + 5,none⟩ = some (.string (strL evs[i].text)) ∧ W.cell? ⟨b,o + i * 8 + 6,none⟩ = some (.int .i64 evs[i].fr) ∧ W.cell? ⟨b,o + i * 8 + 7,none⟩ = some (.int .i64 evs[i].tt):=by
 obtain ⟨b,o,A,m,c,e,hb,hmc,hA,hc⟩:=h.2 i hi
 refine ⟨b,o,A,m,c,e,hb,hmc,hA,fun W hW=>?_⟩
 have k:=fun j (hj:j < 8)=>(hW.cell (p:=⟨b,o + i * 8 + j,none⟩) hb).trans (hc j hj)
 exact ⟨k 0 (by decide),k 1 (by decide),k 2 (by decide),k 3 (by decide),k 4 (by decide),k 5 (by decide),k 6 (by decide),k 7 (by decide)⟩
theorem own_cell {w:World} {base g n cap size:Nat} {e:TypeId} {xs:List Value} (h:w.ownsRow base e size (.slice (some ⟨g,0,none⟩) n cap) n xs) (j:Nat) (hj:j < n * size):∃ x,w.cell? ⟨g,j,none⟩ = some x:=by
 have hl:=h.1
 exact ⟨xs[j],by rw [h.cellAt j hj,List.getElem?_eq_getElem (by omega)]⟩
theorem infoEv:(Tryz.prog.info? 47).map (fun i=>(i.zero,i.size,i.bytes)) = some (some (.agg #[.int .i64 0,.int .i64 0,.int .i64 0,.string ⟨#[]⟩,.slice none 0 0,.string ⟨#[]⟩,.int .i64 0,.int .i64 0]),8,96):=by kernel_rfl
end Go.Proofs.YtgjokdngbocehaaGreatDoor
namespace Go.Proofs.YtgjokdngbocehaaGreatDoor
open Go.RowKit
def ckRow (x:Int × Int × List UInt8):List Value:=[.int .i64 0,.int .i64 x.1,.int .i64 x.2.1,.string (strL x.2.2),.slice none 0 0,.string ⟨#[]⟩,.int .i64 0,.int .i64 0]
def ckC (l:List (Int × Int × List UInt8)):List Value:=l.reverse.flatMap ckRow
theorem ckC_cons (x:Int × Int × List UInt8) (l:List (Int × Int × List UInt8)):ckC (x :: l) = ckC l ++ ckRow x:=by
 unfold ckC
 rw [List.reverse_cons,List.flatMap_append]
 simp
theorem ckC_length (l:List (Int × Int × List UInt8)):(ckC l).length = l.length * 8:=by
 induction l with
 | nil=>rfl
 | cons x l ih=>rw [ckC_cons,List.length_append,ih,List.length_cons];show _ + 8 = _;omega
theorem ckC_top (x:Int × Int × List UInt8) (l:List (Int × Int × List UInt8)) (j:Nat) (hj:j < 8):(ckC (x :: l))[l.length * 8 + j]? = (ckRow x)[j]?:=by
 rw [ckC_cons,← ckC_length,List.getElem?_append_right (by omega),Nat.add_sub_cancel_left]
theorem ckRow_one (x:Int × Int × List UInt8):∀ u ∈ ckRow x,u.oneCell' = true:=by
 intro u hu
 unfold ckRow at hu
 simp only [List.mem_cons,List.not_mem_nil,or_false] at hu
 rcases hu with rfl | rfl | rfl | rfl | rfl | rfl | rfl | rfl <;> rfl
structure Chk (w:World) (R cb:Nat) (v:Value) (s:BegS):Prop where
 lt:cb < R
 le:R ≤ w.heap.size
 at':w.heap[cb]? = some (.cells #[v,.int .i64 s.next,.bool s.text,.bool (decide (s.opn = [] ∧ s.cnt ≠ 0))] 105 (0,0))
 own:w.ownsRow R 47 8 v s.opn.length (ckC s.opn)
 fst:s.cnt = 0 → s.next = 0
 sm:s.opn.length ≤ 1048576 ∧ 0 ≤ s.next ∧ s.next ≤ 1048576
structure Moved (cb:Nat) (v v':Value) (w w':World):Prop where
 os:w'.os = w.os
 tape:w'.tape = w.tape
 output:w'.output = w.output
 size:w.heap.size ≤ w'.heap.size
 block:∀ k,k < w.heap.size → k ≠ cb → v.ownBlock ≠ some k → w'.heap[k]? = w.heap[k]?
 own:v'.ownBlock = v.ownBlock ∨ ∀ k,v'.ownBlock = some k → w.heap.size ≤ k
theorem Moved.of {cb:Nat} {v:Value} {w w':World} (h:Below w.heap.size w w'):Moved cb v v w w':=⟨h.os,h.tape,h.output,h.size,fun k hk _ _=>h.block k hk,.inl rfl⟩
theorem Moved.trans {cb:Nat} {v1 v2 v3:Value} {a b c:World} (h:Moved cb v1 v2 a b) (k:Moved cb v2 v3 b c):Moved cb v1 v3 a c:=by
 refine ⟨k.os.trans h.os,k.tape.trans h.tape,k.output.trans h.output,Nat.le_trans h.size k.size,fun i h1 h2 h3=>?_,?_⟩
 ·refine (k.block i (Nat.lt_of_lt_of_le h1 h.size) h2 (fun e=>?_)).trans (h.block i h1 h2 h3)
  rcases h.own with ho | ho
  ·rw [ho] at e;exact h3 e
  ·have:=ho i e;omega
 ·rcases k.own with ho | ho
  ·rw [ho];exact h.own
  ·exact .inr fun i hi=>Nat.le_trans h.size (ho i hi)
theorem Moved.set {cb:Nat} {v v':Value} {w w':World} (h:Moved cb v v' w w') (i:Nat) (u:Value):Moved cb v v' w (w'.setCell ⟨cb,i,none⟩ u) :=
 ⟨h.os,h.tape,h.output,by simp [World.setCell];exact h.size,fun k h1 h2 h3=>(Below.heap_setCell _ _ _ _ h2).trans (h.block k h1 h2 h3),h.own⟩
theorem Moved.app {cb:Nat} {v v':Value} {w w':World} (h:App w w' v v'):Moved cb v v' w w' :=
 ⟨h.grown.os,h.grown.tape,h.grown.output,h.grown.size,fun k h1 _ h3=>h.keep h1 h3,by
  rcases h.own with e | ⟨g,e,hg⟩
  ·exact .inl e
  ·exact .inr fun k hk=>by rw [e] at hk;cases hk;exact hg⟩
theorem Moved.drewN {cb:Nat} {v v':Value} {w w':World} (h:Moved cb v v' w w') (n:Nat):Moved cb v v' w (w'.drewN n):=⟨h.os,h.tape,h.output,h.size,h.block,h.own⟩
theorem Moved.below {cb B:Nat} {v v':Value} {w w':World} (h:Moved cb v v' w w') (h1:B ≤ cb) (h2:B ≤ w.heap.size) (h3:∀ k,v.ownBlock = some k → B ≤ k):Below B w w' :=
 ⟨h.os,h.tape,h.output,h.size,fun k hk=>h.block k (by omega) (by omega) (fun e=>by have:=h3 k e;omega)⟩
theorem Chk.keep {w w':World} {R cb:Nat} {v:Value} {s:BegS} (h:Chk w R cb v s) (hs:w.heap.size ≤ w'.heap.size) (h1:w'.heap[cb]? = w.heap[cb]?) (h2:∀ k,R ≤ k → k < w.heap.size → v.ownBlock = some k → w'.heap[k]? = w.heap[k]?):Chk w' R cb v s :=
 ⟨h.lt,Nat.le_trans h.le hs,h1.trans h.at',own_block h.own (fun k hk=>h2 k (h.own.lt k hk).1 (h.own.lt k hk).2 hk),h.fst,h.sm⟩
theorem Chk.below {w w':World} {R cb:Nat} {v:Value} {s:BegS} (h:Chk w R cb v s) (hb:Below w.heap.size w w'):Chk w' R cb v s :=
 h.keep hb.size (hb.block cb (Nat.lt_of_lt_of_le h.lt h.le)) (fun k _ hk _=>hb.block k hk)
theorem step_app {P:Program} (w:World) {ops:Array Oper} {o:Oper} {a:Act} {K:Act → World → Prop} {Q:Exit → Act → World → Prop} {E:Prop} (hgd:o.guard = none) (s x:Operand) (t:TypeId)
  (ho:o.op = .call { callee:=.builtin .append,args:=#[s,x],argTypes:=#[t,t] })
  (base:Nat) (e:TypeId) (i:TypeInfo) (z:Value) (size bytes:Nat) (ht:P.underlying t = some (.slice e)) (hi:P.info? e = some i) (hz:i.zero = some z)
  (hsize:i.size = size) (hby:i.bytes = bytes) (hzs:z.cells.size = size) (hsz:0 < size)
  (v:Value) (n:Nat) (xs:List Value) (hs:a.eval s = v) (hown:w.ownsRow base e size v n xs)
  (H:Nat) (c:Nat) (news:List Value) (hx:a.eval x = .slice (some ⟨H,0,none⟩) 1 c) (hl:news.length = size) (hc:w.heap[H]? = some (.cells news.toArray e (0,0))) (h1:∀ u ∈ news,u.oneCell' = true)
  (hn:n + 1 ≤ 4294967296) (hbb:bytes ≤ 16384) (hbase:base ≤ w.heap.size)
  (h:∀ v' w',w'.ownsRow base e size v' (n + 1) (xs ++ news) → App w w' v v' → K (a.put o.dst v') w') :
  if Region.wanted o (yielded ops a.tmps) = true then Oper.wp P o a w K Q else E:=by
 have hw:Region.wanted o (yielded ops a.tmps) = true:=by simp [Region.wanted,hgd]
 rw [if_pos hw]
 have hb:(n + 1) * bytes ≤ 140737488355328:=Nat.le_trans (Nat.mul_le_mul hn hbb) (by decide)
 obtain ⟨v',w',hr,h2,h3,_,h5⟩:=run_append_own_at (P:=P) w base t o.type e i z size bytes ht hi hz hsize hby hzs hsz v n xs hown ⟨H,0,none⟩ 1 c news (by omega) (fun j u hj=>by rw [show (⟨H,0,none⟩:Addr).add j = ⟨H,j,none⟩ by rw [add_cell,Nat.zero_add],cell_heap hc];simpa using hj) h1 (by unfold maxLen;omega) hb hbase
 unfold Oper.wp execOp
 simp only [ho,resolve,invoke,builtin,Sem.run_bind,Sem.run_pure,Result.andThen_ok,List.map_toArray,List.map_cons,List.map_nil,hs,hx,hr]
 refine h v' w' h2 ⟨h3,?_⟩
 rcases h5 with h5 | h5
 ·exact .inl h5
 ·exact .inr ⟨_,h5,Nat.le_refl _⟩
end Go.Proofs.YtgjokdngbocehaaGreatDoor
namespace Go.Proofs.YtgjokdngbocehaaGreatDoor
open Go.RowKit
def listedAfter:List Nat → Array Bool → Array Bool
 | [],l=>l
 | i :: is,l=>listedAfter is (l.setIfInBounds i true)
def putU:List (Option Tmp) → Act → Act
 | [],a=>a
 | d :: ds,a=>putU ds (a.put d undef)
def skipOk (md:Region.Mode) (ops:Array Oper):List Nat → List (Option Tmp) → Array Bool → Act → Bool
 | [],[],_,_=>true
 | i :: is,d :: ds,l,a=>(match ops[i]? with
   | some o=>o.dst == d && !(Region.wanted o (yielded ops a.tmps))
   | none=>false) && Region.free md ops l i && (Region.ready md ops l).contains i && skipOk md ops is ds (l.setIfInBounds i true) (a.put d undef)
 | _,_,_,_=>false
theorem wpAnyH_skips {P:Program} {md:Region.Mode} {ops:Array Oper} {Q:Exit → Act → World → Prop} {S:World → Prop} {fuel:Nat} {w:World} (hs:Region.noSelect ops = true)
  (hQ:∀ d c a w,Q (.panic c) (Act.put a d undef) w → Q (.panic c) a w) (hS:S w) :
  ∀ (is:List Nat) (ds:List (Option Tmp)) (n:Nat) (listed:Array Bool) (a:Act),is.length = n → skipOk md ops is ds listed a = true →
   wpAnyH P md ops Q S fuel (listedAfter is listed) (putU ds a) w → wpAnyH P md ops Q S (fuel + n) listed a w
 | [],[],n,listed,a,hn,_,h=>by
  subst hn
  exact h
 | [],_ :: _,_,_,_,_,hk,_=>by simp [skipOk] at hk
 | _ :: _,[],_,_,_,_,hk,_=>by simp [skipOk] at hk
 | i :: is,d :: ds,n,listed,a,hn,hk,h=>by
  subst hn
  unfold skipOk at hk
  simp only [Bool.and_eq_true] at hk
  obtain ⟨⟨⟨hk0,hk1⟩,hk2⟩,hk3⟩:=hk
  cases ho:ops[i]? with
  | none=>rw [ho] at hk0;simp at hk0
  | some o =>
   rw [ho] at hk0
   simp only [Bool.and_eq_true,Bool.not_eq_true',beq_iff_eq] at hk0
   obtain ⟨rfl,hw⟩:=hk0
   exact wpAnyH_take (v:=undef) (fuel:=fuel + is.length) ho hs hk1 hk2 (hQ o.dst) (Or.inr ⟨hw,rfl⟩) hS (wpAnyH_skips hs hQ hS is ds is.length _ _ rfl hk3 h)
end Go.Proofs.YtgjokdngbocehaaGreatDoor
