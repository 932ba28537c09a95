/-
  A beginning's nodes behind one event more; plain Lean.
-/
import Derived.Test.YtgjokdngbocehaaGreatDoorHsA
import Derived.Test.YtgjokdngbocehaaGreatDoorHsC
import Derived.Test.YtgjokdngbocehaaGreatDoorHsD
import Derived.Test.YtgjokdngbocehaaGreatDoorHsE
import Derived.Test.YtgjokdngbocehaaGreatDoorHsL
import Derived.Test.YtgjokdngbocehaaGreatDoorHsN
import Derived.Test.YtgjokdngbocehaaGreatDoorHsQ
import Derived.Test.YtgjokdngbocehaaGreatDoorHsV
import Derived.Test.YtgjokdngbocehaaGreatDoorHsY
import Derived.Test.YtgjokdngbocehaaGreatDoorHsZC
import Derived.Test.YtgjokdngbocehaaGreatDoorHsZE
namespace Go.Proofs.YtgjokdngbocehaaGreatDoor
open Go.RowKit
theorem rn_valid {l:List Ev}:∀ {st:BegS},begAll beg0 l = some st → ∀ r ∈ rnAll beg0 [] l,Lib.validD r.val = true:=by
 have key:∀ (n:Nat) (l:List Ev),l.length = n → ∀ st,begAll beg0 l = some st → ∀ r ∈ rnAll beg0 [] l,Lib.validD r.val = true:=by
  intro n
  induction n with
  | zero =>
   intro l hl st _ r hr
   have:l = []:=List.eq_nil_of_length_eq_zero hl
   subst this
   cases hr
  | succ n ih =>
   intro l hl st h r hr
   obtain ⟨m,e,rfl⟩:∃ m e,l = m ++ [e]:=⟨l.dropLast,l.getLast (by intro h0;rw [h0] at hl;simp at hl),(List.dropLast_concat_getLast _).symm⟩
   rw [begAll_app] at h
   cases hs:begAll beg0 m with
   | none=>rw [hs] at h;cases h
   | some s =>
    rw [hs] at h
    simp only [Option.bind_some,begAll] at h
    split at h
    ·rename_i hok
     have ihm:=ih m (by simp at hl;omega) s hs
     rw [rnAll_snoc _ _ _ _ hs] at hr
     have hev:e.kind ≠ 2 → Lib.validD e.text = true:=fun hk=>by
      unfold begOk at hok
      split at hok
      ·simp only [Bool.and_eq_true,decide_eq_true_eq] at hok
       rw [hok.1.1.2.2.2];rfl
      ·split at hok
       ·simp only [Bool.and_eq_true] at hok
        have:=hok.1.2
        unfold textsB at this
        rw [Bool.and_eq_true] at this
        exact this.2
       ·first | exact absurd (by assumption) hk | cases hok | (split at hok <;> first | exact absurd (by assumption) hk | cases hok)
     have hmod:∀ (rs:List RN) (i:Nat) (k:Int),(∀ r ∈ rs,Lib.validD r.val = true) → ∀ r ∈ rs.modify i (rnClo k),Lib.validD r.val = true:=by
      intro rs i k h1 r hr
      obtain ⟨j,hj⟩:=List.getElem?_of_mem hr
      rw [List.getElem?_modify] at hj
      cases hg:rs[j]? with
      | none=>rw [hg] at hj;cases hj
      | some y =>
       rw [hg] at hj
       replace hj:=Option.some.inj hj
       dsimp only at hj
       have:=h1 y (List.mem_of_getElem? hg)
       rw [← hj]
       split
       ·exact this
       ·exact this
     have hopn:∀ (o:List Int) (rs:List RN),Lib.validD e.text = true → (∀ r ∈ rs,Lib.validD r.val = true) → ∀ r ∈ rnOpens e o rs,Lib.validD r.val = true:=by
      intro o
      induction o with
      | nil=>intro rs _ h1;exact h1
      | cons q o ih2 =>
       intro rs he h1
       refine ih2 _ he fun r hr=>?_
       obtain ⟨j,hj⟩:=List.getElem?_of_mem hr
       rw [List.getElem?_modify] at hj
       cases hg:rs[j]? with
       | none=>rw [hg] at hj;cases hj
       | some y =>
        rw [hg] at hj
        replace hj:=Option.some.inj hj
        dsimp only at hj
        have:=h1 y (List.mem_of_getElem? hg)
        rw [← hj]
        split
        ·exact validD_app this he
        ·exact this
     unfold rnNext at hr
     by_cases h2:e.kind = 2
     ·rw [if_pos h2] at hr
      exact hmod _ _ _ ihm r hr
     ·rw [if_neg h2] at hr
      have hv:=hev h2
      have hin:∀ r ∈ rnOpens e (opnsOf s) (rnAll beg0 [] m ++ [rnNew s e]),Lib.validD r.val = true:=hopn _ _ hv fun r hr=>by
       rcases List.mem_append.1 hr with hr | hr
       ·exact ihm r hr
       ·rw [List.mem_singleton.1 hr];exact hv
      split at hr
      ·exact hin r hr
      ·exact hmod _ _ _ hin r hr
    ·cases h
 intro st h
 exact key l.length l rfl st h
theorem rn_step {l:List Ev} {e:Ev} {s:BegS} (h:begAll beg0 l = some s) (he:begOk s e = true) :
  (∀ (i:Nat) (r:RN),(rnAll beg0 [] l)[i]? = some r → ∃ r':RN,(rnAll beg0 [] (l ++ [e]))[i]? = some r' ∧ r'.pos = r.pos ∧ r'.par = r.par ∧ (0 ≤ r.clo → r'.clo = r.clo ∧ r'.val = r.val) ∧ ∃ u,r'.val = r.val ++ u) ∧
  (rnAll beg0 [] l).length ≤ (rnAll beg0 [] (l ++ [e])).length ∧
  (∀ (i:Nat) (r:RN),(rnAll beg0 [] l).length ≤ i → (rnAll beg0 [] (l ++ [e]))[i]? = some r → r.par = topOf s.opn ∧ e.kind ≠ 2):=by
 have hs:=rnAll_spec h
 have hinv:=nodesB_inv h
 obtain ⟨hnd,hrg,hiso⟩:=opns_nodup hinv
 have hcl:∀ (i:Nat) (r:RN),(rnAll beg0 [] l)[i]? = some r → 0 ≤ r.clo → ¬ isOpn s i:=fun i r hr hc ho=>by
  have hi:i < (nodesB l).length:=by rw [← hs.len];exact get_lt hr
  obtain ⟨r',q1,_,_,q4,_⟩:=hs.at' i _ (List.getElem?_eq_getElem hi)
  rw [hr] at q1
  cases q1
  have:=(q4 ho).2.1
  omega
 have hnum:=hs.len
 have hnx:=hinv.nxt
 rw [rnAll_snoc _ _ _ _ h]
 generalize rnAll beg0 [] l = rs at *
 unfold rnNext
 by_cases h2:e.kind = 2
 ·rw [if_pos h2]
  refine ⟨fun i r hr=>?_,by rw [List.length_modify];exact Nat.le_refl _,fun i r hi hr=>?_⟩
  ·rw [List.getElem?_modify,hr]
   refine ⟨_,rfl,?_⟩
   dsimp only
   by_cases ei:e.num.toNat = i
   ·rw [if_pos ei]
    refine ⟨rfl,rfl,fun hc=>?_,[],by simp [rnClo]⟩
    have hh:=begOk_close he h2
    refine absurd ?_ (hcl i r hr hc)
    obtain ⟨o,ho1,ho2⟩:∃ o ∈ s.opn,o.1 = e.num:=by
     cases hop:s.opn with
     | nil=>rw [hop] at hh;simp at hh
     | cons a t=>rw [hop] at hh;simp at hh;exact ⟨a,List.mem_cons_self,by rw [hh]⟩
    have:=(hinv.opn o ho1).1
    exact ⟨o,ho1,by omega⟩
   ·rw [if_neg ei]
    exact ⟨rfl,rfl,fun _=>⟨rfl,rfl⟩,[],by simp⟩
  ·rw [List.getElem?_eq_none (by rw [List.length_modify];exact hi)] at hr;cases hr
 ·rw [if_neg h2]
  have hop:∀ (i:Nat) (r:RN),rs[i]? = some r → (rnOpens e (opnsOf s) (rs ++ [rnNew s e]))[i]? = some (if (i:Int) ∈ opnsOf s then rnOpen e r else r):=fun i r hr=>by
   rw [rnOpens_get _ _ _ _ (fun o ho=>(hrg o ho).1) hnd,List.getElem?_append_left (get_lt hr),hr];rfl
  have hnew:∀ (i:Nat) (r:RN),rs.length ≤ i → (rnOpens e (opnsOf s) (rs ++ [rnNew s e]))[i]? = some r → r.par = topOf s.opn:=fun i r hi hr=>by
   rw [rnOpens_get _ _ _ _ (fun o ho=>(hrg o ho).1) hnd,List.getElem?_append_right hi] at hr
   cases hz:i - rs.length with
   | zero =>
    rw [hz] at hr
    simp only [List.getElem?_cons_zero,Option.map_some,Option.some.injEq] at hr
    rw [← hr]
    split <;> rfl
   | succ z=>rw [hz] at hr;simp at hr
  have hstep:∀ (i:Nat) (r:RN),rs[i]? = some r → (if (i:Int) ∈ opnsOf s then rnOpen e r else r).pos = r.pos ∧ (if (i:Int) ∈ opnsOf s then rnOpen e r else r).par = r.par ∧ (0 ≤ r.clo → (if (i:Int) ∈ opnsOf s then rnOpen e r else r).clo = r.clo ∧ (if (i:Int) ∈ opnsOf s then rnOpen e r else r).val = r.val) ∧ ∃ u,(if (i:Int) ∈ opnsOf s then rnOpen e r else r).val = r.val ++ u:=fun i r hr=>by
   by_cases hm:(i:Int) ∈ opnsOf s
   ·rw [if_pos hm]
    refine ⟨rfl,rfl,fun hc=>absurd ((hiso _).1 hm) (hcl i r hr hc),e.text,rfl⟩
   ·rw [if_neg hm]
    exact ⟨rfl,rfl,fun _=>⟨rfl,rfl⟩,[],by simp⟩
  by_cases h0:e.kind = 0
  ·rw [if_pos h0]
   exact ⟨fun i r hr=>⟨_,hop i r hr,hstep i r hr⟩,by rw [rnOpens_length,List.length_append];omega,fun i r hi hr=>⟨hnew i r hi hr,h2⟩⟩
  ·rw [if_neg h0]
   have hnm:=begOk_new he h2
   refine ⟨fun i r hr=>?_,by rw [List.length_modify,rnOpens_length,List.length_append];omega,fun i r hi hr=>?_⟩
   ·rw [List.getElem?_modify,hop i r hr]
    refine ⟨_,rfl,?_⟩
    dsimp only
    have hn1:=hnm.1
    have hlt:=get_lt hr
    rw [if_neg (by omega)]
    exact hstep i r hr
   ·rw [List.getElem?_modify] at hr
    cases hz:(rnOpens e (opnsOf s) (rs ++ [rnNew s e]))[i]? with
    | none=>rw [hz] at hr;cases hr
    | some y =>
     rw [hz] at hr
     replace hr:=Option.some.inj hr
     dsimp only at hr
     have:=hnew i y hi hz
     rw [← hr]
     split
     ·exact ⟨this,h2⟩
     ·exact ⟨this,h2⟩
theorem opI_at {hs:List HN} {k:Nat} {h:HN} (hk:hs[k]? = some h):(opI hs k = 1 ↔ h.op = true):=by
 rw [opI_of hk];cases h.op <;> simp
theorem gr_of {l:List Ev} {e:Ev} {s:BegS} (h:begAll beg0 l = some s) (he:begOk s e = true):Gr (readN l s) (readN (l ++ [e]) (begNext s e)) (rnAll beg0 [] l) (rnAll beg0 [] (l ++ [e])):=by
 have h':begAll beg0 (l ++ [e]) = some (begNext s e):=by
  rw [begAll_app,h]
  simp only [Option.bind_some,begAll,if_pos he]
 have hr:=beg_rel h
 have hr':=beg_rel h'
 have lk:=(lk_of h).1
 have lk':=(lk_of h').1
 obtain ⟨s1,s2,s3⟩:=rn_step h he
 have hv:=rn_valid h
 have hs:=rnAll_spec h
 have hinv:=nodesB_inv h
 have hroot:¬ (s.opn = [] ∧ s.cnt ≠ 0):=fun ⟨a,b⟩=>by
  rw [begOk_closed s e b a] at he
  cases he
 refine ⟨lk,lk',pars_of h,pars_of h',by rw [lk.len,lk'.len];omega,?_,?_⟩
 ·intro k y hy
  cases k with
  | zero =>
   obtain ⟨y0,k1,k2,_,k4,k5,k6⟩:=hr.root
   obtain ⟨z0,m1,m2,_,m4,m5,m6⟩:=hr'.root
   have hy0:(readN l s)[0]? = some { y0 with op:=!decide (s.opn = [] ∧ s.cnt ≠ 0) }:=by rw [readN_root,k1];rfl
   rw [hy] at hy0
   have hz0:(readN (l ++ [e]) (begNext s e))[0]? = some { z0 with op:=!decide ((begNext s e).opn = [] ∧ (begNext s e).cnt ≠ 0) }:=by rw [readN_root,m1];rfl
   refine ⟨_,hz0,?_⟩
   have hyo:y.op = true:=by rw [Option.some.inj hy0];simp only [decide_eq_false hroot];rfl
   have e0:=Option.some.inj hy0
   refine ⟨?_,?_,?_,fun hh=>?_,?_,fun h1=>absurd h1 (by decide)⟩
   ·show z0.par = y.par;rw [e0];show z0.par = y0.par;rw [k5,m5]
   ·show z0.ev = y.ev;rw [e0];show z0.ev = y0.ev;rw [k6,m6]
   ·show z0.kd = y.kd;rw [e0];show z0.kd = y0.kd;rw [k4,m4]
   ·rw [hyo] at hh;cases hh
   ·have ey:y.txt = y0.txt:=by rw [e0]
    show ∃ zs,rL z0.txt = rL y.txt ++ zs
    rw [ey,k2,m2]
    cases hl:(rnAll beg0 [] l) with
    | nil=>exact ⟨_,rfl⟩
    | cons r0 t =>
     have hg:(rnAll beg0 [] l)[0]? = some r0:=by rw [hl];rfl
     obtain ⟨r',q1,_,_,_,u,q5⟩:=s1 0 r0 hg
     have hh:(rnAll beg0 [] (l ++ [e])).head? = some r':=by rw [List.head?_eq_getElem?];exact q1
     rw [hh]
     refine ⟨rL u,?_⟩
     show rL r'.val = rL r0.val ++ rL u
     rw [q5]
     exact rL_app _ _ (hv r0 (List.mem_of_getElem? hg))
  | succ i =>
   have hil:i < (rnAll beg0 [] l).length:=by have:=get_lt hy;have:=lk.len;omega
   have hrk:(rnAll beg0 [] l)[i]? = some (rnAll beg0 [] l)[i]:=List.getElem?_eq_getElem hil
   obtain ⟨y1,g1,g2⟩:=hr.at' i _ hrk
   have:y1 = y:=by rw [readN_at] at hy;rw [g1] at hy;exact Option.some.inj hy
   subst this
   obtain ⟨r',q1,q2,q3,q4,u,q5⟩:=s1 i _ hrk
   obtain ⟨y',p1,p2⟩:=hr'.at' i r' q1
   refine ⟨y',by rw [readN_at];exact p1,?_⟩
   unfold RbAt at g2 p2
   generalize (rnAll beg0 [] l)[i] = r at *
   have hev:y'.ev = y1.ev:=by
    have a1:=g2.1
    have a2:=p2.1
    rw [q2] at a2
    rw [List.getElem?_append_left (get_lt a1),a1] at a2
    exact (Option.some.inj a2).symm
   refine ⟨?_,hev,?_,fun ho=>?_,?_,fun _=>?_⟩
   ·rw [p2.2.1,g2.2.1,q3]
   ·rw [p2.2.2.1,g2.2.2.1,hev]
   ·obtain ⟨c1,c2⟩:=g2.2.2.2.2.2.2.2.1 ho
    obtain ⟨c3,c4⟩:=q4 c1
    have ho':y'.op = false:=by
     cases hb:y'.op with
     | false=>rfl
     | true=>have:=(p2.2.2.2.2.2.2.1 hb).1;omega
    refine ⟨ho',?_,?_⟩
    ·rw [p2.2.2.2.2.1,g2.2.2.2.2.1,c4]
    ·have:=(p2.2.2.2.2.2.2.2.1 ho').2;omega
   ·refine ⟨rL u,?_⟩
    rw [p2.2.2.2.2.1,g2.2.2.2.2.1,q5]
    exact rL_app _ _ (hv r (List.mem_of_getElem? hrk))
   ·rw [p2.2.2.2.2.2.1,g2.2.2.2.2.2.1,q2]
 ·intro j h1 h2 h3
  obtain ⟨i,rfl⟩:∃ i,j = i + 1:=⟨j - 1,by have:=lk.len;omega⟩
  have hil:i < (rnAll beg0 [] (l ++ [e])).length:=by have:=lk'.len;omega
  have hrk:(rnAll beg0 [] (l ++ [e]))[i]? = some (rnAll beg0 [] (l ++ [e]))[i]:=List.getElem?_eq_getElem hil
  obtain ⟨q1,q2⟩:=s3 i _ (by have:=lk.len;omega) hrk
  have hp:=lk'.par i hil
  have hpr:parR (rnAll beg0 [] (l ++ [e])) i = topOf s.opn:=by unfold parR;rw [hrk];exact q1
  rw [hpr] at hp
  rw [hp] at h3 ⊢
  have hroot0:opI (readN l s) 0 = 1:=by
   obtain ⟨y0,k1,_⟩:=hr.root
   have hy0:(readN l s)[0]? = some { y0 with op:=!decide (s.opn = [] ∧ s.cnt ≠ 0) }:=by rw [readN_root,k1];rfl
   rw [opI_at hy0]
   simp only [decide_eq_false hroot];rfl
  unfold topOf at h3 ⊢
  cases hop:s.opn with
  | nil=>simpa using hroot0
  | cons a t =>
   rw [hop] at h3
   have ha:=hinv.opn a (by rw [hop];exact List.mem_cons_self)
   obtain ⟨m,hm⟩:∃ m:Nat,a.1 = (m:Int):=⟨a.1.toNat,by omega⟩
   have e1:((a :: t).head?.map (fun x=>x.1)).getD (-1) = (m:Int):=by simp [hm]
   simp only [List.head?_cons,Option.map_some,Option.getD_some,hm] at h3 ⊢
   have e2:((m:Int) + 1).toNat = m + 1:=by omega
   rw [e2]
   have hml:m < (rnAll beg0 [] l).length:=by have:=hinv.nxt;have:=hs.len;omega
   have hmr:(rnAll beg0 [] l)[m]? = some (rnAll beg0 [] l)[m]:=List.getElem?_eq_getElem hml
   obtain ⟨y,g1,g2⟩:=hr.at' m _ hmr
   have hy:(readN l s)[m + 1]? = some y:=by rw [readN_at];exact g1
   rw [opI_at hy]
   obtain ⟨r',w1,_,_,w4,_⟩:=hs.at' m _ (List.getElem?_eq_getElem (show m < (nodesB l).length by rw [← hs.len];exact hml))
   rw [hmr] at w1
   have hw:=(w4 ⟨a,by rw [hop];exact List.mem_cons_self,by omega⟩).2.1
   cases hb:y.op with
   | true=>rfl
   | false =>
    have:=(g2.2.2.2.2.2.2.2.1 hb).1
    rw [Option.some.inj w1] at this
    omega
end Go.Proofs.YtgjokdngbocehaaGreatDoor
namespace Go.Proofs.YtgjokdngbocehaaGreatDoor
open Go.RowKit
def cntT (evs:List Ev) (k:Nat):Nat:=((evs.take k).filter fun e=>decide (e.kind ≠ 2)).length
theorem cntT_succ (evs:List Ev) (k:Nat) (h:k < evs.length):cntT evs (k + 1) = cntT evs k + if evs[k].kind = 2 then 0 else 1:=by
 unfold cntT
 rw [List.take_succ_eq_append_getElem h,List.filter_append,List.length_append]
 by_cases e:evs[k].kind = 2 <;> simp [e]
theorem cntT_le (evs:List Ev) (k:Nat):cntT evs k ≤ k:=by
 unfold cntT
 exact Nat.le_trans (List.length_filter_le _ _) (by rw [List.length_take];exact Nat.min_le_left _ _)
theorem cnt_beg (l:List Ev):∀ s t:BegS,begAll s l = some t → t.next = s.next + ((l.filter fun e=>decide (e.kind ≠ 2)).length:Int):=by
 induction l with
 | nil=>intro s t h;have:s = t:=Option.some.inj h;subst this;simp
 | cons e l ih =>
  intro s t h
  unfold begAll at h
  split at h
  ·rename_i hok
   have:=ih _ _ h
   rw [this]
   by_cases h2:e.kind = 2
   ·have h3:(begNext s e).next = s.next:=by unfold begNext;simp [h2]
    rw [h3,List.filter_cons_of_neg (by simp [h2])]
   ·have h3:(begNext s e).next = s.next + 1:=by unfold begNext;simp [h2]
    rw [h3,List.filter_cons_of_pos (by simp [h2]),List.length_cons]
    omega
  ·cases h
theorem cnt_next {evs:List Ev} {st:BegS} (h:begAll beg0 evs = some st):st.next = (cntT evs evs.length:Int):=by
 have:=cnt_beg evs _ _ h
 unfold cntT
 rw [List.take_length,this]
 show (0:Int) + _ = _
 omega
end Go.Proofs.YtgjokdngbocehaaGreatDoor
