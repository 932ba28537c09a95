/-
  The answer's axes on a beginning's nodes; the plain law of half's way back.
-/
import Derived.Test.YtgjokdngbocehaaGreatDoorHtD
import Derived.Test.YtgjokdngbocehaaGreatDoorHtF
import Derived.Test.YtgjokdngbocehaaGreatDoorHtI
import Derived.Test.YtgjokdngbocehaaGreatDoorHtY
import Derived.Test.YtgjokdngbocehaaGreatDoorHtZA
import Derived.Test.YtgjokdngbocehaaGreatDoorHtZD
namespace Go.Proofs.YtgjokdngbocehaaGreatDoor
open Go.RowKit
def lastR (rs:List RN) (i:Nat):Nat:=(rs[i]?.map fun r=>r.last.toNat).getD 0
def parR (rs:List RN) (i:Nat):Int:=(rs[i]?.map fun r=>r.par).getD (-1)
theorem rn_at {evs:List Ev} {t:BegS} (ht:begAll beg0 evs = some t) (i:Nat) (hi:i < (rnAll beg0 [] evs).length):∃ (x:Nd) (r:RN),(nodesB evs)[i]? = some x ∧ (rnAll beg0 [] evs)[i]? = some r ∧ r.par = x.par ∧ parR (rnAll beg0 [] evs) i = x.par ∧
  ((lastR (rnAll beg0 [] evs) i:Nat):Int) = r.last ∧ (isOpn t i → lastR (rnAll beg0 [] evs) i = (nodesB evs).length - 1) ∧ (¬ isOpn t i → ((lastR (rnAll beg0 [] evs) i:Nat):Int) = x.last):=by
 have hs:=rnAll_spec ht
 have hl:=hs.len
 have hx:(nodesB evs)[i]? = some (nodesB evs)[i]:=List.getElem?_eq_getElem (by omega)
 obtain ⟨r,h1,_,h3,h4,h5⟩:=hs.at' i _ hx
 have hr:=lastN_rng ht i (by omega)
 have hla:=lastN_at ht hx
 have e1:lastR (rnAll beg0 [] evs) i = r.last.toNat:=by unfold lastR;rw [h1];rfl
 have e2:parR (rnAll beg0 [] evs) i = r.par:=by unfold parR;rw [h1];rfl
 refine ⟨_,r,hx,h1,h3,by rw [e2,h3],?_,fun ho=>?_,fun ho=>?_⟩
 ·by_cases ho:isOpn t i
  ·have:=(h4 ho).1;omega
  ·have:=(h5 ho).1;omega
 ·have:=(h4 ho).1;omega
 ·have:=(h5 ho).1;omega
theorem axR_of {evs:List Ev} {t:BegS} (ht:begAll beg0 evs = some t):AxF (rnAll beg0 [] evs).length (lastR (rnAll beg0 [] evs)) (parR (rnAll beg0 [] evs)):=by
 have hs:=rnAll_spec ht
 have hl:=hs.len
 have hx:=nodesB_ax ht
 have hlr:=lastN_rng ht
 have hat:=rn_at ht
 generalize rnAll beg0 [] evs = rs at *
 have hr:∀ i,i < rs.length → i ≤ lastR rs i ∧ lastR rs i < rs.length:=by
  intro i hi
  obtain ⟨x,r,h1,_,_,_,_,h5,h6⟩:=hat i hi
  by_cases ho:isOpn t i
  ·have:=h5 ho;omega
  ·have h7:=h6 ho
   have h8:=lastN_at ht h1
   have h9:=hlr i (by omega)
   omega
 refine ⟨hr,?_,?_,?_,?_,?_⟩
 ·intro h0
  obtain ⟨x,r,h1,_,_,h4,_⟩:=hat 0 h0
  rw [h4];exact hx.root x h1
 ·intro k hk
  obtain ⟨x,r,h1,_,_,h4,_⟩:=hat k hk
  rw [h4];exact hx.plt k x h1
 ·intro i hi h1
  obtain ⟨x,r,g1,_,_,_,_,g5,g6⟩:=hat i hi
  obtain ⟨y,r',k1,_,_,k4,_⟩:=hat (i + 1) (by have:=hr i hi;omega)
  rw [k4]
  by_cases ho:isOpn t i
  ·exact hx.first i x y g1 k1 (.inl ho)
  ·have:=g6 ho
   exact hx.first i x y g1 k1 (.inr (by omega))
 ·intro k hk h1
  obtain ⟨x,r,g1,_,_,g4,_,g5,g6⟩:=hat k hk
  have hpk:=hx.plt k x g1
  unfold hiP at h1
  have h2:lastR rs k + 1 < rs.length:=by
   split at h1
   ·exact h1
   ·have:=hr (parR rs k).toNat (by rw [g4];omega);omega
  have hno:¬ isOpn t k:=fun ho=>by have:=g5 ho;omega
  have h3:=g6 hno
  obtain ⟨y,r',k1,_,_,k4,_⟩:=hat _ h2
  rw [k4,g4]
  refine hx.sib k x y g1 hno (by rw [← h3,show ((lastR rs k:Nat):Int) + 1 = ((lastR rs k + 1:Nat):Int) by omega,Int.toNat_natCast];exact k1) ?_
  by_cases hneg:x.par = -1
  ·exact .inl hneg
  ·obtain ⟨p,r'',p1,_,_,_,_,p5,p6⟩:=hat x.par.toNat (by omega)
   by_cases hop:isOpn t x.par
   ·exact .inr (.inl hop)
   ·have hc:((x.par.toNat:Nat):Int) = x.par:=by omega
    have:=p6 (by rw [hc];exact hop)
    rw [g4,if_neg (by omega)] at h1
    exact .inr (.inr ⟨p,p1,by omega⟩)
 ·intro k hk
  obtain ⟨x,r,g1,_,_,g4,_,g5,g6⟩:=hat k hk
  have hpk:=hx.plt k x g1
  unfold hiP
  split
  ·exact (hr k hk).2
  ·rename_i h1
   rw [g4] at h1 ⊢
   have hc:((x.par.toNat:Nat):Int) = x.par:=by omega
   obtain ⟨p,r'',p1,_,_,_,_,p5,p6⟩:=hat x.par.toNat (by omega)
   by_cases ho:isOpn t k
   ·have hpo:isOpn t x.par:=by
     obtain ⟨o,ho1,ho2⟩:=ho
     obtain ⟨u,v,huv⟩:=List.append_of_mem ho1
     obtain ⟨x',hx1,hx2⟩:=hx.par o v ⟨u,huv.symm⟩
     have:o.1.toNat = k:=by omega
     rw [this,g1] at hx1
     cases hx1
     unfold topOf at hx2
     cases hv:v with
     | nil=>rw [hv] at hx2;simp at hx2;omega
     | cons a v' =>
      rw [hv] at hx2
      simp at hx2
      exact ⟨a,by rw [huv,hv];simp,hx2.symm⟩
    have h7:=p5 (by rw [hc];exact hpo)
    have h8:=g5 ho
    omega
   ·have h3:=g6 ho
    obtain ⟨p',hp',hcl⟩:=hx.ins k x g1 ho (by omega)
    rw [p1] at hp'
    cases hp'
    by_cases hop:isOpn t x.par
    ·have h7:=p5 (by rw [hc];exact hop)
     have h8:=hr k hk
     omega
    ·have h7:=p6 (by rw [hc];exact hop)
     rcases hcl with hcl | hcl
     ·exact absurd hcl hop
     ·omega
section
variable {L:Nat} {f:Nat → Nat} {p:Nat → Int}
theorem ax_child (h:AxF L f p) (k m:Nat) (hk:k < L) (hp:p k = (m:Int)):m < k ∧ k ≤ f m:=by
 have h1:=h.plt k hk
 have h2:=h.ins k hk
 have h3:=h.rng k hk
 unfold hiP at h2
 rw [hp,if_neg (by omega),Int.toNat_natCast] at h2
 omega
theorem ax_nest (h:AxF L f p) (m:Nat) (hm:m < L):∀ j,m < j → j ≤ f m → f j ≤ f m:=by
 intro j
 induction j using Nat.strongRecOn with
 | _ j ih =>
  intro h1 h2
  have hf:=h.rng m hm
  have hjL:j < L:=by omega
  have hg:=par_ge h m hm j h1 h2
  have hpl:=h.plt j hjL
  have hi:=h.ins j hjL
  unfold hiP at hi
  rw [if_neg (by omega)] at hi
  by_cases e:p j = (m:Int)
  ·rw [e,Int.toNat_natCast] at hi;omega
  ·have:=ih (p j).toNat (by omega) (by omega) (by omega)
   omega
end
theorem orL2_le {a b c:Int} (ha:T3 a) (hb:T3 b):orL [a,b] ≤ c ↔ a ≤ c ∧ b ≤ c:=by rw [orL_two ha hb];omega
theorem orL3_le {a b d c:Int} (ha:T3 a) (hb:T3 b) (hd:T3 d):orL [a,b,d] ≤ c ↔ a ≤ c ∧ b ≤ c ∧ d ≤ c:=by
 have:orL [a,b,d] = max a (max b d):=by
  unfold orL
  simp only [List.foldl_cons,List.foldl_nil,seenI_of ha,seenI_of hb,seenI_of hd]
  unfold T3 at *;omega
 rw [this];omega
def parH (hs:List HN) (k:Nat):Nat:=((hs[k]?.map fun (h:HN)=>h.par).getD 0).toNat
def opI (hs:List HN) (k:Nat):Int:=if (hs[k]?.map fun (h:HN)=>h.op).getD false then 1 else 0
theorem opI_3 (hs:List HN) (k:Nat):T3 (opI hs k):=by unfold opI T3;split <;> decide
theorem cd_step (hs:List HN) (he:List Int) (k:Nat) (h:k < hs.length):cdAll hs he k = ((cdAll hs he (k + 1)).1.set (parH hs k) (orL [(cdAll hs he (k + 1)).1.getD (parH hs k) 0,he.getD k 0]),(cdAll hs he (k + 1)).2.set (parH hs k) (orL [(cdAll hs he (k + 1)).2.getD (parH hs k) 0,he.getD k 0,(cdAll hs he (k + 1)).2.getD k 0])):=cdAll_step hs he k h
theorem getD_set (l:List Int) (i j:Nat) (v:Int) (hi:i < l.length):(l.set i v).getD j 0 = if i = j then v else l.getD j 0:=by
 rw [List.getD_eq_getElem?_getD,List.getElem?_set]
 by_cases e:i = j
 ·subst e;simp [hi]
 ·simp [e,List.getD_eq_getElem?_getD]
theorem cd_le (hs:List HN) (he:List Int) (h3:R3 he) (hp:∀ k,1 ≤ k → k < hs.length → parH hs k < k) (c:Int):∀ d j,j + d = hs.length → 1 ≤ j → ∀ m,m < hs.length →
  (((cdAll hs he j).1.getD m 0 ≤ c ↔ opI hs m ≤ c ∧ ∀ k,j ≤ k → k < hs.length → parH hs k = m → he.getD k 0 ≤ c) ∧
   ((cdAll hs he j).2.getD m 0 ≤ c ↔ opI hs m ≤ c ∧ ∀ k,j ≤ k → k < hs.length → parH hs k = m → he.getD k 0 ≤ c ∧ (cdAll hs he (k + 1)).2.getD k 0 ≤ c)):=by
 intro d
 induction d with
 | zero =>
  intro j hj h1 m hm
  have:j = hs.length:=by omega
  subst this
  rw [cdAll_end]
  have e:(rowOf hs.length fun k=>if (hs[k]?.map fun (h:HN)=>h.op).getD false then 1 else 0).getD m 0 = opI hs m:=rowOf_getD _ _ _ hm
  simp only [e]
  exact ⟨⟨fun h=>⟨h,fun k h2 h3=>by omega⟩,fun h=>h.1⟩,⟨fun h=>⟨h,fun k h2 h3=>by omega⟩,fun h=>h.1⟩⟩
 | succ d ih =>
  intro j hj h1 m hm
  obtain ⟨i1,i2⟩:=ih (j + 1) (by omega) (by omega) m hm
  obtain ⟨q1,q2,q3,q4⟩:=cdAll_ok hs he d (j + 1) (by omega)
  have hpj:=hp j h1 (by omega)
  rw [cd_step hs he j (by omega)]
  simp only
  rw [getD_set _ _ _ _ (by omega),getD_set _ _ _ _ (by omega)]
  by_cases e:parH hs j = m
  ·rw [if_pos e,if_pos e,e,orL2_le (q1.at m) (h3.at j),orL3_le (q2.at m) (h3.at j) (q2.at j),i1,i2]
   constructor
   ·constructor
    ·rintro ⟨⟨a1,a2⟩,a3⟩
     refine ⟨a1,fun k b1 b2 b3=>?_⟩
     by_cases ek:k = j
     ·subst ek;exact a3
     ·exact a2 k (by omega) b2 b3
    ·rintro ⟨a1,a2⟩
     exact ⟨⟨a1,fun k b1 b2 b3=>a2 k (by omega) b2 b3⟩,a2 j (Nat.le_refl _) (by omega) e⟩
   ·constructor
    ·rintro ⟨⟨a1,a2⟩,a3,a4⟩
     refine ⟨a1,fun k b1 b2 b3=>?_⟩
     by_cases ek:k = j
     ·subst ek;exact ⟨a3,a4⟩
     ·exact a2 k (by omega) b2 b3
    ·rintro ⟨a1,a2⟩
     have:=a2 j (Nat.le_refl _) (by omega) e
     exact ⟨⟨a1,fun k b1 b2 b3=>a2 k (by omega) b2 b3⟩,this.1,this.2⟩
  ·rw [if_neg e,if_neg e,i1,i2]
   constructor
   ·exact ⟨fun ⟨a1,a2⟩=>⟨a1,fun k b1 b2 b3=>a2 k (by rcases Nat.eq_or_lt_of_le b1 with h | h;exact absurd (h ▸ b3) e;omega) b2 b3⟩,fun ⟨a1,a2⟩=>⟨a1,fun k b1 b2 b3=>a2 k (by omega) b2 b3⟩⟩
   ·exact ⟨fun ⟨a1,a2⟩=>⟨a1,fun k b1 b2 b3=>a2 k (by rcases Nat.eq_or_lt_of_le b1 with h | h;exact absurd (h ▸ b3) e;omega) b2 b3⟩,fun ⟨a1,a2⟩=>⟨a1,fun k b1 b2 b3=>a2 k (by omega) b2 b3⟩⟩
theorem cd_keep (hs:List HN) (he:List Int) (hp:∀ k,1 ≤ k → k < hs.length → parH hs k < k) (k:Nat) (hk:k < hs.length):∀ d j,j + d = k + 1 → 1 ≤ j → (cdAll hs he j).2.getD k 0 = (cdAll hs he (k + 1)).2.getD k 0:=by
 intro d
 induction d with
 | zero=>intro j hj _;rw [show j = k + 1 by omega]
 | succ d ih =>
  intro j hj h1
  rw [← ih (j + 1) (by omega) (by omega),cd_step hs he j (by omega)]
  have hpj:=hp j h1 (by omega)
  obtain ⟨_,_,_,q4⟩:=cdAll_ok hs he (hs.length - (j + 1)) (j + 1) (by omega)
  simp only
  rw [getD_set _ _ _ _ (by omega),if_neg (by omega)]
theorem deep_le (hs:List HN) (he:List Int) (h3:R3 he) (hp:∀ k,1 ≤ k → k < hs.length → parH hs k < k) (F:Nat → Nat)
  (hc:∀ k,1 ≤ k → k < hs.length → k ≤ F (parH hs k)) (hg:∀ m k,m < hs.length → m < k → k ≤ F m → k < hs.length ∧ m ≤ parH hs k) (hn:∀ m j,m < hs.length → m < j → j ≤ F m → F j ≤ F m)
  (ho:∀ k,1 ≤ k → k < hs.length → opI hs k ≤ opI hs (parH hs k)) (c:Int):∀ d m,m + d = hs.length → m < hs.length →
  ((cdAll hs he 1).2.getD m 0 ≤ c ↔ opI hs m ≤ c ∧ ∀ k,m < k → k ≤ F m → he.getD k 0 ≤ c):=by
 have hrec:∀ m,m < hs.length → ((cdAll hs he 1).2.getD m 0 ≤ c ↔ opI hs m ≤ c ∧ ∀ k,1 ≤ k → k < hs.length → parH hs k = m → he.getD k 0 ≤ c ∧ (cdAll hs he 1).2.getD k 0 ≤ c):=by
  intro m hm
  rw [(cd_le hs he h3 hp c (hs.length - 1) 1 (by omega) (Nat.le_refl _) m hm).2]
  constructor
  ·rintro ⟨a1,a2⟩
   exact ⟨a1,fun k b1 b2 b3=>by rw [cd_keep hs he hp k b2 k 1 (by omega) (Nat.le_refl _)];exact a2 k b1 b2 b3⟩
  ·rintro ⟨a1,a2⟩
   exact ⟨a1,fun k b1 b2 b3=>by rw [← cd_keep hs he hp k b2 k 1 (by omega) (Nat.le_refl _)];exact a2 k b1 b2 b3⟩
 have hfor:∀ m,m < hs.length → (cdAll hs he 1).2.getD m 0 ≤ c → ∀ k,m < k → k ≤ F m → he.getD k 0 ≤ c ∧ (cdAll hs he 1).2.getD k 0 ≤ c:=by
  intro m hm hd k
  induction k using Nat.strongRecOn with
  | _ k ih =>
   intro h1 h2
   obtain ⟨hkl,hge⟩:=hg m k hm h1 h2
   have hpk:=hp k (by omega) hkl
   by_cases e:parH hs k = m
   ·exact ((hrec m hm).1 hd).2 k (by omega) hkl e
   ·have hj:=ih (parH hs k) hpk (by omega) (by omega)
    exact ((hrec (parH hs k) (by omega)).1 hj.2).2 k (by omega) hkl rfl
 intro d
 induction d using Nat.strongRecOn with
 | _ d ih =>
  intro m hmd hm
  constructor
  ·intro hd
   exact ⟨((hrec m hm).1 hd).1,fun k h1 h2=>(hfor m hm hd k h1 h2).1⟩
  ·rintro ⟨a1,a2⟩
   refine (hrec m hm).2 ⟨a1,fun k b1 b2 b3=>?_⟩
   have hpk:=hp k b1 b2
   have hkF:=hc k b1 b2
   rw [b3] at hpk hkF
   refine ⟨a2 k hpk hkF,?_⟩
   refine (ih (hs.length - k) (by omega) k (by omega) b2).2 ⟨?_,fun k' h1 h2=>?_⟩
   ·have:=ho k b1 b2
    rw [b3] at this
    omega
   ·exact a2 k' (by omega) (Nat.le_trans h2 (hn m k hm hpk hkF))
end Go.Proofs.YtgjokdngbocehaaGreatDoor
