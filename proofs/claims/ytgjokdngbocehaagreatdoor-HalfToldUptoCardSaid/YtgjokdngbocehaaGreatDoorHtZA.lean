/-
  The plain law of the answer's nodes: what gimletref09.Nodes comes to.
-/
import Derived.Test.YtgjokdngbocehaaGreatDoorHtD
import Derived.Test.YtgjokdngbocehaaGreatDoorHtE
import Derived.Test.YtgjokdngbocehaaGreatDoorHtF
import Derived.Test.YtgjokdngbocehaaGreatDoorHtG
import Derived.Test.YtgjokdngbocehaaGreatDoorHtY
namespace Go.Proofs.YtgjokdngbocehaaGreatDoor
open Go.RowKit
structure RN where
 pos:Nat
 par:Int
 last:Int
 clo:Int
 val:List UInt8
def rnOpen (e:Ev) (r:RN):RN:=⟨r.pos,r.par,e.num,r.clo,r.val ++ e.text⟩
def rnClo (k:Int) (r:RN):RN:=⟨r.pos,r.par,r.last,k,r.val⟩
def rnOpens (e:Ev):List Int → List RN → List RN
 | [],rs=>rs
 | o :: l,rs=>rnOpens e l (rs.modify o.toNat (rnOpen e))
def opnsOf (s:BegS):List Int:=s.opn.reverse.map (·.1)
def rnNew (s:BegS) (e:Ev):RN:=⟨s.cnt,topOf s.opn,e.num,-1,e.text⟩
def rnNext (s:BegS) (rs:List RN) (e:Ev):List RN :=
 if e.kind = 2 then rs.modify e.num.toNat (rnClo s.cnt)
 else if e.kind = 0 then rnOpens e (opnsOf s) (rs ++ [rnNew s e])
 else (rnOpens e (opnsOf s) (rs ++ [rnNew s e])).modify e.num.toNat (rnClo s.cnt)
def rnAll:BegS → List RN → List Ev → List RN
 | _,rs,[]=>rs
 | s,rs,e :: l=>rnAll (begNext s e) (rnNext s rs e) l
theorem rnAll_snoc (s:BegS) (rs:List RN) (l:List Ev) (e:Ev) {t:BegS} (h:begAll s l = some t):rnAll s rs (l ++ [e]) = rnNext t (rnAll s rs l) e:=by
 induction l generalizing s rs with
 | nil=>simp only [begAll,Option.some.injEq] at h;subst h;rfl
 | cons x l ih =>
  unfold begAll at h
  split at h
  ·exact ih _ _ h
  ·cases h
theorem rnOpens_get (e:Ev):∀ (l:List Int) (rs:List RN) (j:Nat),(∀ o ∈ l,0 ≤ o) → l.Nodup → (rnOpens e l rs)[j]? = (rs[j]?).map (fun r=>if (j:Int) ∈ l then rnOpen e r else r)
 | [],rs,j,_,_=>by simp [rnOpens]
 | o :: l,rs,j,h0,hn=>by
  have hn':=List.nodup_cons.1 hn
  have ho:=h0 o List.mem_cons_self
  unfold rnOpens
  rw [rnOpens_get e l _ j (fun x hx=>h0 x (List.mem_cons_of_mem _ hx)) hn'.2,List.getElem?_modify]
  cases hr:rs[j]? with
  | none=>simp
  | some r =>
   simp only [Option.map_some]
   by_cases hj:o.toNat = j
   ·have hoj:(j:Int) = o:=by omega
    rw [hoj]
    simp [hn'.1,hj]
   ·have hoj:(j:Int) ≠ o:=by omega
    simp [hj,hoj]
theorem rnOpens_length (e:Ev):∀ (l:List Int) (rs:List RN),(rnOpens e l rs).length = rs.length
 | [],_=>rfl
 | o :: l,rs=>by unfold rnOpens;rw [rnOpens_length e l];simp
theorem rnOpens_snoc (e:Ev):∀ (l:List Int) (o:Int) (rs:List RN),rnOpens e (l ++ [o]) rs = (rnOpens e l rs).modify o.toNat (rnOpen e)
 | [],_,_=>rfl
 | x :: l,o,rs=>by
  show rnOpens e (l ++ [o]) _ = _
  rw [rnOpens_snoc e l o]
  rfl
theorem modify_two {α:Type} (l:List α) (j:Nat) (f g:α → α):(l.modify j f).modify j g = l.modify j (fun x=>g (f x)):=by
 apply List.ext_getElem?
 intro i
 rw [List.getElem?_modify,List.getElem?_modify,List.getElem?_modify]
 cases l[i]? with
 | none=>rfl
 | some x =>
  by_cases h:j = i
  ·simp [h]
  ·simp [h]
theorem nodup_take {l:List Int} (h:l.Nodup) {q:Nat} (hq:q < l.length):l[q] ∉ l.take q:=by
 intro hm
 obtain ⟨i,hi,he⟩:=List.getElem_of_mem hm
 rw [List.length_take] at hi
 rw [List.getElem_take] at he
 exact (List.pairwise_iff_getElem.1 h i q (by omega) hq (by omega)) he
def txO (pre:List Ev) (nds:List Nd) (j:Nat):List UInt8:=((nds[j]?.bind fun x=>pre[x.pos]?).map (·.text)).getD []
def txsO (pre:List Ev) (nds:List Nd) (i hi:Nat):List UInt8:=(List.range' i (hi - i)).flatMap (txO pre nds)
theorem txsO_congr {pre pre':List Ev} {nds nds':List Nd} {i hi:Nat} (h:∀ j,i ≤ j → j < hi → txO pre nds j = txO pre' nds' j):txsO pre nds i hi = txsO pre' nds' i hi:=by
 unfold txsO
 have:∀ (l:List Nat),(∀ j ∈ l,txO pre nds j = txO pre' nds' j) → l.flatMap (txO pre nds) = l.flatMap (txO pre' nds'):=by
  intro l hl
  induction l with
  | nil=>rfl
  | cons a l ih=>rw [List.flatMap_cons,List.flatMap_cons,hl a List.mem_cons_self,ih (fun j hj=>hl j (List.mem_cons_of_mem _ hj))]
 refine this _ (fun j hj=>?_)
 rw [List.mem_range'_1] at hj
 exact h j hj.1 (by omega)
theorem txsO_succ (pre:List Ev) (nds:List Nd) {i k:Nat} (h:i ≤ k):txsO pre nds i (k + 1) = txsO pre nds i k ++ txO pre nds k:=by
 unfold txsO
 rw [show k + 1 - i = k - i + 1 by omega,List.range'_concat,List.flatMap_append]
 simp only [List.flatMap_cons,List.flatMap_nil,List.append_nil,Nat.one_mul]
 rw [show i + (k - i) = k by omega]
theorem txsO_nil (pre:List Ev) (nds:List Nd) {i:Nat}:txsO pre nds i i = []:=by unfold txsO;simp
structure RSpec (pre:List Ev) (s:BegS) (nds:List Nd) (rs:List RN):Prop where
 len:rs.length = nds.length
 at':∀ (i:Nat) (x:Nd),nds[i]? = some x → ∃ r,rs[i]? = some r ∧ r.pos = x.pos ∧ r.par = x.par ∧
  (isOpn s i → r.last = (nds.length:Int) - 1 ∧ r.clo = -1 ∧ r.val = txsO pre nds i nds.length) ∧
  (¬ isOpn s i → r.last = x.last ∧ r.clo = (x.fin:Int) - 1 ∧ r.val = txsO pre nds i (x.last.toNat + 1))
theorem RSpec.start:RSpec [] beg0 [] []:=⟨rfl,fun i x h=>by simp at h⟩
theorem opns_nodup {pre:List Ev} {s:BegS} {nds:List Nd} (h:NdInv pre s nds):(opnsOf s).Nodup ∧ (∀ o ∈ opnsOf s,0 ≤ o ∧ o < (nds.length:Int)) ∧ ∀ i:Int,i ∈ opnsOf s ↔ isOpn s i:=by
 refine ⟨?_,?_,?_⟩
 ·unfold opnsOf
  rw [List.Nodup,List.pairwise_map,List.pairwise_reverse]
  exact h.srt.imp (fun hab=>by omega)
 ·intro o ho
  unfold opnsOf at ho
  obtain ⟨x,hx,rfl⟩:=List.mem_map.1 ho
  have:=h.opn x (List.mem_reverse.1 hx)
  have hn:=h.nxt
  omega
 ·intro i
  unfold opnsOf isOpn
  rw [List.mem_map]
  constructor
  ·rintro ⟨x,hx,rfl⟩;exact ⟨x,List.mem_reverse.1 hx,rfl⟩
  ·rintro ⟨x,hx,rfl⟩;exact ⟨x,List.mem_reverse.2 hx,rfl⟩
theorem RSpec.step {pre:List Ev} {s:BegS} {nds:List Nd} {rs:List RN} {e:Ev} (hi:NdInv pre s nds) (hl:NdLast nds) (h:RSpec pre s nds rs) (he:begOk s e = true):RSpec (pre ++ [e]) (begNext s e) (ndNext s nds e) (rnNext s rs e):=by
 have hnx:=hi.nxt
 have hcnt:=hi.cnt
 by_cases hk:e.kind = 2
 ·have hh:=begOk_close he hk
  obtain ⟨rest,hr⟩:∃ rest,s.opn = (e.num,e.dep,e.name) :: rest:=by
   cases ho:s.opn with
   | nil=>rw [ho] at hh;cases hh
   | cons a r=>rw [ho] at hh;simp at hh;exact ⟨r,by rw [hh]⟩
  have hnum:=hi.opn _ (by rw [hr];exact List.mem_cons_self)
  simp only at hnum
  have hop:(begNext s e).opn = rest:=by unfold begNext;simp [hk,hr]
  have hsrt:=hi.srt
  rw [hr] at hsrt
  have hp:=List.pairwise_cons.1 hsrt
  have hopn:∀ i,isOpn s i ↔ i = e.num ∨ isOpn (begNext s e) i:=by
   intro i
   unfold isOpn
   rw [hop,hr]
   constructor
   ·rintro ⟨o,ho,rfl⟩
    rcases List.mem_cons.1 ho with rfl | ho
    ·exact .inl rfl
    ·exact .inr ⟨o,ho,rfl⟩
   ·rintro (rfl | ⟨o,ho,rfl⟩)
    ·exact ⟨_,List.mem_cons_self,rfl⟩
    ·exact ⟨o,List.mem_cons_of_mem _ ho,rfl⟩
  have hnot:¬ isOpn (begNext s e) e.num:=by
   rintro ⟨o,ho,hoe⟩
   rw [hop] at ho
   have:=hp.1 o ho
   simp only at this
   omega
  have hlen:(ndNext s nds e).length = nds.length:=by unfold ndNext;rw [if_pos hk,List.length_modify]
  have hm:∀ (n:Nat) (x:Nd),(ndNext s nds e)[n]? = some x → ∃ y,nds[n]? = some y ∧ x.pos = y.pos ∧ x.par = y.par ∧ (((n:Int) = e.num ∧ x.last = (nds.length:Int) - 1 ∧ x.fin = s.cnt + 1) ∨ ((n:Int) ≠ e.num ∧ x.last = y.last ∧ x.fin = y.fin)):=by
   intro n x hx
   unfold ndNext at hx
   rw [if_pos hk,List.getElem?_modify] at hx
   cases hy:nds[n]? with
   | none=>rw [hy] at hx;simp at hx
   | some y =>
    rw [hy] at hx
    by_cases hn:e.num.toNat = n
    ·simp [hn] at hx;subst hx;exact ⟨y,rfl,rfl,rfl,.inl ⟨by omega,rfl,rfl⟩⟩
    ·simp [hn] at hx;subst hx;exact ⟨y,rfl,rfl,rfl,.inr ⟨by omega,rfl,rfl⟩⟩
  have htx:∀ j,txO pre nds j = txO (pre ++ [e]) (ndNext s nds e) j:=by
   intro j
   unfold txO
   cases hx:(ndNext s nds e)[j]? with
   | none =>
    have hge:=List.getElem?_eq_none_iff.1 hx
    rw [hlen] at hge
    rw [List.getElem?_eq_none hge]
    rfl
   | some x =>
    obtain ⟨y,hy,hpos,_⟩:=hm j x hx
    have hrg:=hi.rng j y hy
    rw [hy]
    simp only [Option.bind_some,hpos]
    rw [List.getElem?_append_left (by omega)]
  have hrn:rnNext s rs e = rs.modify e.num.toNat (rnClo s.cnt):=by unfold rnNext;rw [if_pos hk]
  refine ⟨by rw [hrn,List.length_modify,hlen];exact h.len,fun i x' hx'=>?_⟩
  obtain ⟨x,hx,hpos,hpar,hc⟩:=hm i x' hx'
  obtain ⟨r,hr0,h1,h2,h3,h4⟩:=h.at' i x hx
  rw [hrn,List.getElem?_modify,hr0,hlen]
  rcases hc with ⟨hin,hla,hfi⟩ | ⟨hin,hla,hfi⟩
  ·have hin':e.num.toNat = i:=by omega
   obtain ⟨k1,k2,k3⟩:=h3 ((hopn _).2 (.inl hin))
   refine ⟨rnClo s.cnt r,by simp [hin'],by rw [hpos];exact h1,by rw [hpar];exact h2,fun ho=>absurd (hin ▸ ho) hnot,fun _=>⟨by rw [hla];exact k1,by rw [hfi];simp [rnClo],?_⟩⟩
   show r.val = _
   have hil:=get_lt hx
   rw [k3,hla,show ((nds.length:Int) - 1).toNat + 1 = nds.length by omega]
   exact txsO_congr (fun j _ _=>htx j)
  ·have hin':e.num.toNat ≠ i:=by omega
   refine ⟨r,by simp [hin'],by rw [hpos];exact h1,by rw [hpar];exact h2,fun ho=>?_,fun ho=>?_⟩
   ·obtain ⟨k1,k2,k3⟩:=h3 ((hopn _).2 (.inr ho))
    exact ⟨k1,k2,by rw [k3];exact txsO_congr (fun j _ _=>htx j)⟩
   ·obtain ⟨k1,k2,k3⟩:=h4 (fun hc=>by
     rcases (hopn _).1 hc with h5 | h5
     ·exact hin h5
     ·exact ho h5)
    exact ⟨by rw [hla];exact k1,by rw [hfi];exact k2,by rw [k3,hla];exact txsO_congr (fun j _ _=>htx j)⟩
 ·obtain ⟨hn,hk01⟩:=begOk_new he hk
  have hnd:ndNext s nds e = nds ++ [⟨s.cnt,topOf s.opn,e.num,s.cnt + 1⟩]:=by unfold ndNext;rw [if_neg hk];rfl
  have hopn:∀ i,isOpn (begNext s e) i ↔ isOpn s i ∨ (e.kind = 0 ∧ i = (nds.length:Int)):=by
   intro i
   unfold isOpn begNext
   simp only [hk,if_false]
   by_cases h0:e.kind = 0
   ·simp only [h0,if_true,true_and]
    constructor
    ·rintro ⟨o,ho,rfl⟩
     rcases List.mem_cons.1 ho with rfl | ho
     ·exact .inr (by simp only;omega)
     ·exact .inl ⟨o,ho,rfl⟩
    ·rintro (⟨o,ho,rfl⟩ | rfl)
     ·exact ⟨o,List.mem_cons_of_mem _ ho,rfl⟩
     ·exact ⟨_,List.mem_cons_self,by simp only;omega⟩
   ·simp [h0]
  obtain ⟨hnod,hb,hmem⟩:=opns_nodup hi
  have htx:∀ j,j < nds.length → txO pre nds j = txO (pre ++ [e]) (ndNext s nds e) j:=by
   intro j hj
   unfold txO
   rw [hnd,List.getElem?_append_left hj,List.getElem?_eq_getElem hj]
   have hrg:=hi.rng j _ (List.getElem?_eq_getElem hj)
   simp only [Option.bind_some]
   rw [List.getElem?_append_left (by omega)]
  have htl:txO (pre ++ [e]) (ndNext s nds e) nds.length = e.text:=by
   unfold txO
   rw [hnd,get_last]
   simp only [Option.bind_some,hcnt,get_last,Option.map_some,Option.getD_some]
  have hlen':(ndNext s nds e).length = nds.length + 1:=by rw [hnd];simp
  have hget:∀ j:Nat,(rnOpens e (opnsOf s) (rs ++ [rnNew s e]))[j]? = ((rs ++ [rnNew s e])[j]?).map (fun r=>if (j:Int) ∈ opnsOf s then rnOpen e r else r):=fun j=>rnOpens_get e _ _ j (fun o ho=>(hb o ho).1) hnod
  have hrsl:=h.len
  have hfin:∀ (j:Nat) (r:RN),j < nds.length → (rnOpens e (opnsOf s) (rs ++ [rnNew s e]))[j]? = some r → (rnNext s rs e)[j]? = some r:=by
   intro j r hj hr
   unfold rnNext
   rw [if_neg hk]
   split
   ·exact hr
   ·rw [List.getElem?_modify,hr]
    have:e.num.toNat ≠ j:=by omega
    simp [this]
  refine ⟨?_,fun i x hx=>?_⟩
  ·rw [hlen']
   unfold rnNext
   rw [if_neg hk]
   split
   ·rw [rnOpens_length];simp [hrsl]
   ·rw [List.length_modify,rnOpens_length];simp [hrsl]
  ·rw [hnd] at hx
   rw [hlen']
   rcases snoc_get hx with ⟨hil,hx⟩ | ⟨hil,rfl⟩
   ·obtain ⟨r,hr0,h1,h2,h3,h4⟩:=h.at' i x hx
    have hg:=hget i
    rw [List.getElem?_append_left (by omega),hr0] at hg
    simp only [Option.map_some] at hg
    by_cases ho:isOpn s i
    ·rw [if_pos ((hmem _).2 ho)] at hg
     obtain ⟨k1,k2,k3⟩:=h3 ho
     refine ⟨_,hfin i _ hil hg,h1,h2,fun _=>⟨?_,k2,?_⟩,fun hno=>absurd ((hopn _).2 (.inl ho)) hno⟩
     ·show e.num = _
      omega
     ·show r.val ++ e.text = _
      rw [txsO_succ _ _ (by omega),htl,k3]
      congr 1
      exact txsO_congr (fun j _ hj=>htx j hj)
    ·rw [if_neg (fun hc=>ho ((hmem _).1 hc))] at hg
     obtain ⟨k1,k2,k3⟩:=h4 ho
     refine ⟨_,hfin i _ hil hg,h1,h2,fun ho'=>?_,fun _=>⟨k1,k2,?_⟩⟩
     ·rcases (hopn _).1 ho' with h5 | ⟨_,h5⟩
      ·exact absurd h5 ho
      ·omega
     ·rw [k3]
      have:=(hl i x hx)
      exact txsO_congr (fun j _ hj=>htx j (by omega))
   ·subst hil
    have hg:=hget nds.length
    rw [← hrsl,get_last] at hg
    simp only [Option.map_some] at hg
    rw [if_neg (fun hc=>by have:=(hb _ hc).2;omega),hrsl] at hg
    have hen:e.num.toNat = nds.length:=by omega
    have hv:e.text = txsO (pre ++ [e]) (ndNext s nds e) nds.length (nds.length + 1):=by
     rw [txsO_succ _ _ (Nat.le_refl _),txsO_nil,htl];rfl
    by_cases h0:e.kind = 0
    ·refine ⟨rnNew s e,?_,rfl,rfl,fun _=>⟨?_,rfl,hv⟩,fun hno=>absurd ((hopn _).2 (.inr ⟨h0,rfl⟩)) hno⟩
     ·unfold rnNext
      rw [if_neg hk,if_pos h0];exact hg
     ·show e.num = _
      omega
    ·refine ⟨rnClo s.cnt (rnNew s e),?_,rfl,rfl,fun ho=>?_,fun _=>⟨rfl,?_,?_⟩⟩
     ·unfold rnNext
      rw [if_neg hk,if_neg h0,List.getElem?_modify,hg]
      simp [hen]
     ·rcases (hopn _).1 ho with ⟨o,ho',hoe⟩ | ⟨h5,_⟩
      ·have:=hi.opn o ho'
       omega
      ·exact absurd h5 h0
     ·show (s.cnt:Int) = ((s.cnt + 1:Nat):Int) - 1
      omega
     ·show e.text = _
      rw [hen]
      exact hv
theorem RSpec.all {pre:List Ev} {s:BegS} {nds:List Nd} {rs:List RN} (hi:NdInv pre s nds) (hl:NdLast nds) (h:RSpec pre s nds rs):∀ (l:List Ev) {t:BegS},begAll s l = some t → RSpec (pre ++ l) t (ndAll s nds l) (rnAll s rs l):=by
 intro l
 induction l generalizing pre s nds rs with
 | nil=>intro t ht;simp only [begAll,Option.some.injEq] at ht;subst ht;simpa [ndAll,rnAll] using h
 | cons e l ih =>
  intro t ht
  unfold begAll at ht
  split at ht
  ·rename_i he
   have:=ih (hi.step he) (hl.step hi he) (h.step hi hl he) ht
   simpa [ndAll,rnAll] using this
  ·cases ht
theorem rnAll_spec {l:List Ev} {t:BegS} (h:begAll beg0 l = some t):RSpec l t (nodesB l) (rnAll beg0 [] l):=by
 have:=RSpec.all NdInv.start (fun n x hx=>by simp at hx) RSpec.start l h
 simpa [nodesB] using this
theorem RSpec.val_len {pre:List Ev} {s:BegS} {nds:List Nd} {rs:List RN} (h:RSpec pre s nds rs) (hl:NdLast nds) (ht:∀ e ∈ pre,e.text.length ≤ 1048576) {i:Nat} {r:RN} (hr:rs[i]? = some r):r.val.length ≤ nds.length * 1048576:=by
 have htx:∀ j,(txO pre nds j).length ≤ 1048576:=by
  intro j
  unfold txO
  cases h1:nds[j]? with
  | none=>simp
  | some x =>
   simp only [Option.bind_some]
   cases h2:pre[x.pos]? with
   | none=>simp
   | some e=>simp only [Option.map_some,Option.getD_some];exact ht e (List.mem_of_getElem? h2)
 have hlen:∀ i hi,hi ≤ nds.length → (txsO pre nds i hi).length ≤ nds.length * 1048576:=by
  intro i hi hh
  unfold txsO
  have:=flat_len (txO pre nds) 1048576 (List.range' i (hi - i)) (fun x _=>htx x)
  rw [List.length_range'] at this
  exact Nat.le_trans this (Nat.mul_le_mul_right _ (by omega))
 have hil:i < nds.length:=by rw [← h.len];exact get_lt hr
 obtain ⟨r',hr',_,_,h3,h4⟩:=h.at' i _ (List.getElem?_eq_getElem hil)
 rw [hr] at hr'
 obtain rfl:=Option.some.inj hr'
 by_cases ho:isOpn s i
 ·rw [(h3 ho).2.2];exact hlen _ _ (Nat.le_refl _)
 ·rw [(h4 ho).2.2]
  have:=hl i _ (List.getElem?_eq_getElem hil)
  exact hlen _ _ (by omega)
end Go.Proofs.YtgjokdngbocehaaGreatDoor
namespace Go.Proofs.YtgjokdngbocehaaGreatDoor
open Go.RowKit
def RbAt (N:Nat) (evs:List Ev) (h:HN) (r:RN):Prop :=
 evs[r.pos]? = some h.ev ∧ h.par = r.par + 1 ∧ h.kd = (if h.ev.kind = 0 then 1 else 2) ∧ (h.ev.kind = 0 ∨ h.ev.kind = 1) ∧ h.txt = r.val ∧ h.bg = r.pos ∧ (h.op = true → r.clo = -1 ∧ h.en = N) ∧ (h.op = false → 0 ≤ r.clo ∧ (h.en:Int) = r.clo + 1) ∧ (h.ev.kind = 1 → h.op = false)
structure RbR (N:Nat) (evs:List Ev) (s:BegS) (hs:List HN) (o:List Nat) (rs:List RN):Prop where
 len:hs.length = rs.length + 1
 opn:o = 0 :: (opnsOf s).map (fun x=>x.toNat + 1)
 bot:∀ x,(opnsOf s).head? = some x → x = 0
 at':∀ (i:Nat) (r:RN),rs[i]? = some r → ∃ h,hs[i + 1]? = some h ∧ RbAt N evs h r
 root:∃ h,hs[0]? = some h ∧ h.txt = (rs.head?.map fun r=>r.val).getD [] ∧ h.op = true ∧ h.kd = 0 ∧ h.par = -1 ∧ h.ev = hRoot.ev
theorem foldl_add_get (t:List UInt8):∀ (o:List Nat) (l:List HN) (j:Nat),o.Nodup → (o.foldl (fun l k=>l.modify k (addT t)) l)[j]? = (l[j]?).map (fun h=>if j ∈ o then addT t h else h)
 | [],l,j,_=>by simp
 | k :: o,l,j,hn=>by
  obtain ⟨h1,h2⟩:=List.nodup_cons.1 hn
  rw [List.foldl_cons,foldl_add_get t o _ j h2,List.getElem?_modify]
  cases hl:l[j]? with
  | none=>simp
  | some x =>
   simp only [Option.map_some]
   by_cases e:k = j
   ·subst e;simp [h1]
   ·have e2:¬ j = k:=fun h=>e h.symm
    simp [e,e2]
theorem opnsOf_open {s:BegS} {e:Ev} (h:e.kind = 0):opnsOf (begNext s e) = opnsOf s ++ [e.num]:=by
 have:(begNext s e).opn = (e.num,e.dep,e.name) :: s.opn:=by unfold begNext;simp [h]
 unfold opnsOf;rw [this];simp
theorem opnsOf_text {s:BegS} {e:Ev} (h:e.kind = 1):opnsOf (begNext s e) = opnsOf s:=by
 have:(begNext s e).opn = s.opn:=by unfold begNext;simp [h]
 unfold opnsOf;rw [this]
theorem opnsOf_close {s:BegS} {e:Ev} {rest:List (Int × Int × List UInt8)} (h:e.kind = 2) (hr:s.opn = (e.num,e.dep,e.name) :: rest):opnsOf s = opnsOf (begNext s e) ++ [e.num]:=by
 have:(begNext s e).opn = rest:=by unfold begNext;simp [h,hr]
 unfold opnsOf;rw [this,hr];simp
theorem topH_of {s:BegS} {o:List Nat} (h:o = 0 :: (opnsOf s).map (fun x=>x.toNat + 1)) (h0:∀ x ∈ s.opn,0 ≤ x.1):(topH o:Int) = topOf s.opn + 1:=by
 subst h
 unfold topH topOf
 cases ho:s.opn with
 | nil=>unfold opnsOf;rw [ho];rfl
 | cons a r =>
  have e:opnsOf s = (r.reverse.map (·.1)) ++ [a.1]:=by unfold opnsOf;rw [ho];simp
  have:=h0 a (by rw [ho];exact List.mem_cons_self)
  rw [e,List.map_append,← List.cons_append]
  simp
  omega
theorem RbR.start (N:Nat) (evs:List Ev):RbR N evs beg0 [hRoot] [0] [] :=
 ⟨rfl,rfl,fun x h=>(by cases h),fun i r h=>by simp at h,hRoot,rfl,rfl,rfl,rfl,rfl,rfl⟩
theorem RbR.step {N k:Nat} {evs:List Ev} {s:BegS} {hs:List HN} {o:List Nat} {rs:List RN} (h:RbR N evs s hs o rs) (hk:k < evs.length) (he:begOk s evs[k] = true) (hn:o.Nodup) (hinv:NdInv (evs.take k) s (nodesB (evs.take k))) (hrl:(rs.length:Int) = s.next) :
  RbR N evs (begNext s evs[k]) (hNext N k (hs,o) evs[k]).1 (hNext N k (hs,o) evs[k]).2 (rnNext s rs evs[k]):=by
 obtain ⟨h1,h2,h3,h4,h5⟩:=h
 have hcnt:s.cnt = k:=by rw [hinv.cnt,List.length_take];omega
 obtain ⟨hnd,hop0,_⟩:=opns_nodup hinv
 have hopn:=hinv.opn
 have htop:=topH_of h2 (fun x hx=>(hopn x hx).1)
 have hek:evs[k]? = some evs[k]:=List.getElem?_eq_getElem hk
 generalize evs[k] = e at *
 by_cases k2:e.kind = 2
 ·have hhd:=begOk_close he k2
  obtain ⟨rest,hr⟩:∃ rest,s.opn = (e.num,e.dep,e.name) :: rest:=by
   cases ho:s.opn with
   | nil=>rw [ho] at hhd;cases hhd
   | cons a r=>rw [ho] at hhd;simp at hhd;exact ⟨r,by rw [hhd]⟩
  have hnum:=hopn _ (by rw [hr];exact List.mem_cons_self)
  simp only at hnum
  have hoc:=opnsOf_close k2 hr
  have ht2:topH o = e.num.toNat + 1:=by
   have:topOf s.opn = e.num:=by unfold topOf;rw [hr];rfl
   omega
  have e1:hNext N k (hs,o) e = (hs.modify (topH o) (endH k),o.dropLast):=by unfold hNext;rw [if_neg (by omega),if_neg (by omega)]
  have e2:rnNext s rs e = rs.modify e.num.toNat (rnClo k):=by unfold rnNext;rw [if_pos k2,hcnt]
  rw [e1,e2]
  refine ⟨by rw [List.length_modify,List.length_modify];exact h1,?_,fun x hx=>?_,fun i r hri=>?_,?_⟩
  ·rw [h2,hoc,List.map_append,← List.cons_append]
   exact List.dropLast_concat
  ·refine h3 x ?_
   rw [hoc,List.head?_append]
   rw [hx];rfl
  ·rw [List.getElem?_modify] at hri
   cases hr0:rs[i]? with
   | none=>rw [hr0] at hri;simp at hri
   | some r0 =>
    rw [hr0] at hri
    obtain ⟨y,g1,g2⟩:=h4 i r0 hr0
    rw [List.getElem?_modify,g1,ht2]
    by_cases e3:e.num.toNat = i
    ·subst e3
     simp at hri
     subst hri
     refine ⟨endH k y,by simp,?_⟩
     obtain ⟨q1,q2,q3,q4,q5,q6,q7,q8,q9⟩:=g2
     exact ⟨q1,q2,q3,q4,q5,q6,fun hh=>absurd hh Bool.false_ne_true,fun _=>⟨by show (0:Int) ≤ (k:Int);omega,by show ((k + 1:Nat):Int) = (k:Int) + 1;omega⟩,fun _=>rfl⟩
    ·simp [e3] at hri
     subst hri
     exact ⟨y,by simp [e3],g2⟩
  ·obtain ⟨y,g1,g2,g3⟩:=h5
   refine ⟨y,by rw [List.getElem?_modify,g1,ht2];simp,?_,g3⟩
   rw [g2,List.head?_eq_getElem?,List.head?_eq_getElem?,List.getElem?_modify]
   cases rs[0]? with
   | none=>rfl
   | some r0 =>
    by_cases e3:e.num.toNat = 0
    ·simp [e3,rnClo]
    ·simp [e3]
 obtain ⟨hnum,h01⟩:=begOk_new he k2
 have hnl:e.num.toNat = rs.length:=by omega
 have hmem:∀ i:Nat,i + 1 ∈ o ↔ (i:Int) ∈ opnsOf s:=by
  intro i
  rw [h2]
  constructor
  ·intro hm
   rcases List.mem_cons.1 hm with hm | hm
   ·omega
   ·obtain ⟨x,hx,hxe⟩:=List.mem_map.1 hm
    have:=(hop0 x hx).1
    have:x = (i:Int):=by omega
    rw [← this];exact hx
  ·intro hm
   exact List.mem_cons_of_mem _ (List.mem_map.2 ⟨_,hm,by simp⟩)
 have hopge:∀ x ∈ opnsOf s,0 ≤ x:=fun x hx=>(hop0 x hx).1
 have hnotlast:¬ ((rs.length:Nat):Int) ∈ opnsOf s:=fun hm=>by
  have:=(hop0 _ hm).2
  have hl:=hinv.nxt
  omega
 have hget:∀ i:Nat,(rnOpens e (opnsOf s) (rs ++ [rnNew s e]))[i]? = ((rs ++ [rnNew s e])[i]?).map (fun r=>if (i:Int) ∈ opnsOf s then rnOpen e r else r):=fun i=>rnOpens_get e _ _ i hopge hnd
 rcases h01 with k0 | k1
 ·have het:e.text = []:=by
   unfold begOk at he
   rw [if_pos k0] at he
   simp only [Bool.and_eq_true,decide_eq_true_eq] at he
   exact he.1.1.2.2.2
  have e1:hNext N k (hs,o) e = (hs ++ [⟨e,1,topH o,true,[],k,N⟩],o ++ [hs.length]):=by unfold hNext;rw [if_pos k0]
  have e2:rnNext s rs e = rnOpens e (opnsOf s) (rs ++ [rnNew s e]):=by unfold rnNext;rw [if_neg k2,if_pos k0]
  rw [e1,e2]
  refine ⟨by rw [rnOpens_length];simp [h1],?_,fun x hx=>?_,fun i r hri=>?_,?_⟩
  ·rw [opnsOf_open k0,List.map_append,← List.cons_append,← h2,h1]
   simp [hnl]
  ·rw [opnsOf_open k0,List.head?_append] at hx
   cases hh:(opnsOf s).head? with
   | some y=>rw [hh] at hx;cases hx;exact h3 _ hh
   | none =>
    rw [hh] at hx
    simp at hx
    have hnil:s.opn = []:=by
     cases ho:s.opn with
     | nil=>rfl
     | cons a r=>unfold opnsOf at hh;rw [ho] at hh;simp at hh
    have hc0:s.cnt = 0:=by
     unfold begOk at he
     rw [if_pos k0] at he
     simp only [Bool.and_eq_true,decide_eq_true_eq] at he
     rcases he.1.1.1 with h0 | h0
     ·exact h0
     ·exact absurd hnil h0
    have:(evs.take k) = []:=List.eq_nil_of_length_eq_zero (by rw [← hinv.cnt];exact hc0)
    have hz:=hinv.nxt
    rw [this] at hz
    have:(nodesB []).length = 0:=rfl
    rw [this] at hz
    omega
  ·rw [hget] at hri
   cases hr0:(rs ++ [rnNew s e])[i]? with
   | none=>rw [hr0] at hri;simp at hri
   | some r0 =>
    rw [hr0] at hri
    simp only [Option.map_some,Option.some.injEq] at hri
    have hsame:r.pos = r0.pos ∧ r.par = r0.par ∧ r.clo = r0.clo ∧ r.val = r0.val:=by
     subst hri
     split
     ·exact ⟨rfl,rfl,rfl,by show r0.val ++ e.text = _;rw [het,List.append_nil]⟩
     ·exact ⟨rfl,rfl,rfl,rfl⟩
    obtain ⟨w1,w2,w3,w4⟩:=hsame
    rcases snoc_get hr0 with ⟨hil,hr0⟩ | ⟨hil,rfl⟩
    ·obtain ⟨y,g1,q1,q2,q3,q4,q5,q6,q7,q8,q9⟩:=h4 i r0 hr0
     exact ⟨y,get_snoc g1,by rw [w1];exact q1,by rw [w2];exact q2,q3,q4,by rw [w4];exact q5,by rw [w1];exact q6,by rw [w3];exact q7,by rw [w3];exact q8,q9⟩
    ·refine ⟨⟨e,1,topH o,true,[],k,N⟩,by rw [hil,← h1];exact get_last hs _,?_⟩
     exact ⟨by rw [w1];show evs[s.cnt]? = some e;rw [hcnt];exact hek,by rw [w2];exact htop,by show (1:Int) = if e.kind = 0 then 1 else 2;rw [if_pos k0],.inl k0,by rw [w4];show [] = e.text;exact het.symm,by rw [w1];exact hcnt.symm,fun _=>⟨by rw [w3];rfl,rfl⟩,fun hh=>absurd hh.symm Bool.false_ne_true,fun hh=>by have:e.kind = 1:=hh;omega⟩
  ·obtain ⟨y,g1,g2,g3⟩:=h5
   refine ⟨y,get_snoc g1,?_,g3⟩
   rw [g2,List.head?_eq_getElem?,List.head?_eq_getElem?,hget]
   cases hr0:rs[0]? with
   | none =>
    have hz:rs = []:=by cases rs with
     | nil=>rfl
     | cons a l=>simp at hr0
    subst hz
    simp only [List.nil_append,List.getElem?_cons_zero,Option.map_some,Option.map_none,Option.getD_none,Option.getD_some]
    split
    ·show [] = e.text ++ e.text;rw [het];rfl
    ·show [] = e.text;rw [het]
   | some r0 =>
    rw [get_snoc hr0]
    simp only [Option.map_some,Option.getD_some]
    split
    ·show r0.val = r0.val ++ e.text;rw [het,List.append_nil]
    ·rfl
 ·have e1:hNext N k (hs,o) e = (o.foldl (fun l k=>l.modify k (addT e.text)) (hs ++ [⟨e,2,topH o,false,e.text,k,k + 1⟩]),o):=by unfold hNext;rw [if_neg (by omega),if_pos k1]
  have e2:rnNext s rs e = (rnOpens e (opnsOf s) (rs ++ [rnNew s e])).modify rs.length (rnClo k):=by unfold rnNext;rw [if_neg k2,if_neg (by omega),hcnt,hnl]
  have hne:s.opn ≠ []:=by
   unfold begOk at he
   rw [if_neg (by omega),if_pos k1] at he
   simp only [Bool.and_eq_true,decide_eq_true_eq] at he
   exact he.1.1.1
  rw [e1,e2]
  have hfg:=fun j=>foldl_add_get e.text o (hs ++ [(⟨e,2,topH o,false,e.text,k,k + 1⟩:HN)]) j hn
  refine ⟨by rw [foldl_modify_len,List.length_modify,rnOpens_length];simp [h1],by rw [opnsOf_text k1];exact h2,by rw [opnsOf_text k1];exact h3,fun i r hri=>?_,?_⟩
  ·rw [List.getElem?_modify,hget] at hri
   rw [hfg]
   cases hr0:(rs ++ [rnNew s e])[i]? with
   | none=>rw [hr0] at hri;simp at hri
   | some r0 =>
    rw [hr0] at hri
    rcases snoc_get hr0 with ⟨hil,hr0⟩ | ⟨hil,rfl⟩
    ·have hni:¬ rs.length = i:=by omega
     simp [hni] at hri
     obtain ⟨y,g1,q1,q2,q3,q4,q5,q6,q7,q8,q9⟩:=h4 i r0 hr0
     rw [get_snoc g1]
     by_cases hm:(i:Int) ∈ opnsOf s
     ·rw [if_pos hm] at hri
      subst hri
      refine ⟨addT e.text y,by simp [(hmem i).2 hm],?_⟩
      exact ⟨q1,q2,q3,q4,by show y.txt ++ e.text = r0.val ++ e.text;rw [q5],q6,q7,q8,q9⟩
     ·rw [if_neg hm] at hri
      subst hri
      have hno:¬ i + 1 ∈ o:=fun hh=>hm ((hmem i).1 hh)
      exact ⟨y,by rw [Option.map_some,if_neg hno],q1,q2,q3,q4,q5,q6,q7,q8,q9⟩
    ·have hnl2:¬ (i:Int) ∈ opnsOf s:=by rw [hil];exact hnotlast
     simp [hil.symm,hnl2] at hri
     have hno:¬ i + 1 ∈ o:=fun hh=>hnl2 ((hmem i).1 hh)
     refine ⟨⟨e,2,topH o,false,e.text,k,k + 1⟩,?_,?_⟩
     ·have:i + 1 = hs.length:=by omega
      rw [this,get_last]
      rw [← this]
      simp [hno]
     ·subst hri
      exact ⟨by show evs[s.cnt]? = some e;rw [hcnt];exact hek,htop,by show (2:Int) = if e.kind = 0 then 1 else 2;rw [if_neg (by omega)],.inr k1,rfl,hcnt.symm,fun hh=>absurd hh Bool.false_ne_true,fun _=>⟨by show (0:Int) ≤ (k:Int);omega,by show ((k + 1:Nat):Int) = (k:Int) + 1;omega⟩,fun _=>rfl⟩
  ·obtain ⟨y,g1,g2,g3⟩:=h5
   refine ⟨addT e.text y,?_,?_,g3⟩
   ·rw [hfg,get_snoc g1]
    have:0 ∈ o:=by rw [h2];exact List.mem_cons_self
    simp [this]
   ·have hz:(0:Int) ∈ opnsOf s:=by
     cases hh:(opnsOf s).head? with
     | none =>
      exfalso
      cases ho:s.opn with
      | nil=>exact hne ho
      | cons a r=>unfold opnsOf at hh;rw [ho] at hh;simp at hh
     | some x =>
      have:=h3 x hh
      subst this
      exact List.mem_of_head? hh
    have hlt:0 < rs.length:=by
     have:=(hop0 0 hz).2
     have hl:=hinv.nxt
     omega
    obtain ⟨r0,hr0⟩:∃ r0,rs[0]? = some r0:=⟨rs[0],List.getElem?_eq_getElem hlt⟩
    have hn0:¬ rs.length = 0:=by omega
    show y.txt ++ e.text = _
    rw [g2,List.head?_eq_getElem?,List.head?_eq_getElem?,List.getElem?_modify,hget,get_snoc hr0,hr0]
    have hz':((0:Nat):Int) ∈ opnsOf s:=hz
    simp only [Option.map_some,Option.getD_some,if_pos hz',if_neg hn0]
    rfl
theorem RbR.all (N:Nat) (evs:List Ev):∀ k,k ≤ evs.length → ∀ s,begAll beg0 (evs.take k) = some s → RbR N evs s (hAll N evs k).1 (hAll N evs k).2 (rnAll beg0 [] (evs.take k)):=by
 intro k
 induction k with
 | zero =>
  intro _ s hs
  rw [List.take_zero] at hs
  obtain rfl:beg0 = s:=Option.some.inj hs
  exact RbR.start N evs
 | succ k ih =>
  intro hk s hs
  have hkl:k < evs.length:=by omega
  have hs2:=hs
  rw [List.take_succ_eq_append_getElem hkl,begAll_snoc] at hs
  cases ht:begAll beg0 (evs.take k) with
  | none=>rw [ht] at hs;cases hs
  | some t =>
   rw [ht] at hs
   simp only [Option.bind_some] at hs
   split at hs
   ·rename_i hok
    obtain rfl:=Option.some.inj hs
    have hinv:=nodesB_inv ht
    have hrl:((rnAll beg0 [] (evs.take k)).length:Int) = t.next:=by rw [(rnAll_spec ht).len];exact hinv.nxt.symm
    have:=(ih (by omega) t ht).step hkl hok (HOk.all N evs k (by omega) t ht).nod hinv hrl
    rw [hAll_succ N evs k hkl,List.take_succ_eq_append_getElem hkl,rnAll_snoc _ _ _ _ ht]
    exact this
   ·cases hs
end Go.Proofs.YtgjokdngbocehaaGreatDoor
