/-
  The nodes that a beginning's events tell, as half.read keeps them; plain Lean.
-/
import Derived.Deep.Upon
import Derived.Test.YtgjokdngbocehaaGreatDoorHtA
import Derived.Test.YtgjokdngbocehaaGreatDoorHtD
import Derived.Test.YtgjokdngbocehaaGreatDoorHtF
namespace Go.Proofs.YtgjokdngbocehaaGreatDoor
open Go.RowKit
def hRoot:HN:=⟨⟨0,0,0,[],[],[],0,0⟩,0,-1,true,[],0,0⟩
def topH (o:List Nat):Nat:=(o[o.length - 1]?).getD 0
def addT (t:List UInt8) (h:HN):HN:={ h with txt:=h.txt ++ t }
def endH (i:Nat) (h:HN):HN:={ h with op:=false,en:=i + 1 }
def hNext (N i:Nat) (st:List HN × List Nat) (e:Ev):List HN × List Nat :=
 if e.kind = 0 then (st.1 ++ [⟨e,1,topH st.2,true,[],i,N⟩],st.2 ++ [st.1.length])
 else if e.kind = 1 then (st.2.foldl (fun l k=>l.modify k (addT e.text)) (st.1 ++ [⟨e,2,topH st.2,false,e.text,i,i + 1⟩]),st.2)
 else (st.1.modify (topH st.2) (endH i),st.2.dropLast)
def hAll (N:Nat) (evs:List Ev) (k:Nat):List HN × List Nat:=(List.range k).foldl (fun st i=>match evs[i]? with | none=>st | some e=>hNext N i st e) ([hRoot],[0])
theorem hAll_zero (N:Nat) (evs:List Ev):hAll N evs 0 = ([hRoot],[0]):=rfl
theorem hAll_succ (N:Nat) (evs:List Ev) (k:Nat) (h:k < evs.length):hAll N evs (k + 1) = hNext N k (hAll N evs k) evs[k]:=by
 unfold hAll
 rw [List.range_succ,List.foldl_append]
 simp [List.getElem?_eq_getElem h]
def txS (evs:List Ev) (k:Nat):Nat:=((evs.take k).map fun e=>e.text.length).sum
theorem txS_succ (evs:List Ev) (k:Nat) (h:k < evs.length):txS evs (k + 1) = txS evs k + evs[k].text.length:=by
 unfold txS
 rw [List.take_succ_eq_append_getElem h,List.map_append,List.sum_append];simp
theorem txS_le (evs:List Ev) (k:Nat):txS evs k ≤ wtEs evs:=by
 unfold txS wtEs
 induction evs generalizing k with
 | nil=>simp
 | cons x r ih =>
  cases k with
  | zero=>simp
  | succ k=>simp only [List.take_succ_cons,List.map_cons,List.sum_cons];have:=ih k;have:x.text.length ≤ wtE x:=(by unfold wtE;omega);omega
structure HOk (N:Nat) (evs:List Ev) (k:Nat) (s:BegS) (st:List HN × List Nat):Prop where
 len:st.1.length ≤ k + 1
 pos:1 ≤ st.1.length
 opn:st.2.length = s.opn.length + 1
 lt:∀ p ∈ st.2,p < st.1.length
 par:∀ (i:Nat) (h:HN),st.1[i]? = some h → 1 ≤ i → 0 ≤ h.par ∧ h.par < (i:Int)
 txt:∀ h ∈ st.1,h.txt.length ≤ txS evs k
 ev:∀ h ∈ st.1,h.ev ∈ evs ∨ h.ev = hRoot.ev
 root:∀ h,st.1[0]? = some h → h.par = -1 ∧ h.kd = 0
 cnt:st.1.length = s.next.toNat + 1 ∧ 0 ≤ s.next
 nod:st.2.Nodup
theorem foldl_modify_len {α:Type} (f:α → α) (o:List Nat):∀ l:List α,(o.foldl (fun l k=>l.modify k f) l).length = l.length:=by
 induction o with
 | nil=>intro l;rfl
 | cons k o ih=>intro l;rw [List.foldl_cons,ih,List.length_modify]
theorem modify_get {α:Type} {f:α → α} {l:List α} {k i:Nat} {x:α} (h:(l.modify k f)[i]? = some x):∃ y,l[i]? = some y ∧ (x = y ∨ x = f y):=by
 rw [List.getElem?_modify] at h
 cases hy:l[i]? with
 | none=>rw [hy] at h;simp at h
 | some y =>
  rw [hy] at h
  refine ⟨y,rfl,?_⟩
  by_cases e:k = i
  ·simp [e] at h;exact .inr h.symm
  ·simp [e] at h;exact .inl h.symm
theorem topH_mem {o:List Nat} (h:1 ≤ o.length):topH o ∈ o:=by
 unfold topH
 rw [List.getElem?_eq_getElem (by omega)]
 exact List.getElem_mem _
theorem hAll_start (N:Nat) (evs:List Ev):HOk N evs 0 beg0 (hAll N evs 0):=by
 rw [hAll_zero]
 refine ⟨Nat.le_refl _,Nat.le_refl _,rfl,fun p hp=>?_,fun i h hi h1=>?_,fun h hh=>?_,fun h hh=>?_,fun h hh=>?_,⟨rfl,Int.le_refl _⟩,?_⟩
 ·have:p = 0:=by simpa using hp
  subst this;exact Nat.lt_succ_self _
 ·have:i < 1:=(List.getElem?_eq_some_iff.1 hi).1
  omega
 ·have:h = hRoot:=by simpa using hh
  subst this;exact Nat.zero_le _
 ·have:h = hRoot:=by simpa using hh
  subst this;exact .inr rfl
 ·obtain rfl:hRoot = h:=by simpa using hh
  exact ⟨rfl,rfl⟩
 ·exact List.nodup_cons.2 ⟨by simp,List.nodup_nil⟩
theorem foldl_modify_get {f:HN → HN} (hf:∀ h,(f h).par = h.par ∧ (f h).kd = h.kd ∧ (f h).ev = h.ev) (o:List Nat):∀ (l:List HN) (i:Nat) (h:HN),(o.foldl (fun l k=>l.modify k f) l)[i]? = some h → ∃ y,l[i]? = some y ∧ h.par = y.par ∧ h.kd = y.kd ∧ h.ev = y.ev:=by
 induction o with
 | nil=>intro l i h hi;exact ⟨h,hi,rfl,rfl,rfl⟩
 | cons k o ih =>
  intro l i h hi
  rw [List.foldl_cons] at hi
  obtain ⟨y,h1,h2,h3,h4⟩:=ih _ i h hi
  obtain ⟨z,g1,g2⟩:=modify_get h1
  refine ⟨z,g1,?_,?_,?_⟩
  ·rcases g2 with rfl | rfl
   ·exact h2
   ·exact h2.trans (hf z).1
  ·rcases g2 with rfl | rfl
   ·exact h3
   ·exact h3.trans (hf z).2.1
  ·rcases g2 with rfl | rfl
   ·exact h4
   ·exact h4.trans (hf z).2.2
theorem foldl_add_len (t:List UInt8) (B:Nat) (o:List Nat):o.Nodup → ∀ l:List HN,(∀ h ∈ l,h.txt.length ≤ B) → ∀ (i:Nat) (h:HN),(o.foldl (fun l k=>l.modify k (addT t)) l)[i]? = some h → h.txt.length ≤ B + t.length:=by
 intro hn l hl i h hi
 have key:∀ (o:List Nat),o.Nodup → ∀ l:List HN,(∀ h ∈ l,h.txt.length ≤ B + t.length) → (∀ k ∈ o,∀ h,l[k]? = some h → h.txt.length ≤ B) → ∀ h ∈ (o.foldl (fun l k=>l.modify k (addT t)) l),h.txt.length ≤ B + t.length:=by
  intro o
  induction o with
  | nil=>intro _ l h1 _ h hh;exact h1 h hh
  | cons k o ih =>
   intro hn l h1 h2 h hh
   rw [List.foldl_cons] at hh
   obtain ⟨hk,hn2⟩:=List.nodup_cons.1 hn
   refine ih hn2 (l.modify k (addT t)) (fun g hg=>?_) (fun q hq g hg=>?_) h hh
   ·obtain ⟨j,hj,rfl⟩:=List.getElem_of_mem hg
    have hj2:(l.modify k (addT t))[j]? = some (l.modify k (addT t))[j]:=List.getElem?_eq_getElem hj
    obtain ⟨y,g1,g2⟩:=modify_get hj2
    by_cases e:j = k
    ·subst e
     have h3:=h2 j List.mem_cons_self y g1
     rcases g2 with g2 | g2
     ·rw [g2];omega
     ·rw [g2];unfold addT;simp only [List.length_append];omega
    ·have h4:(l.modify k (addT t))[j]? = l[j]?:=by rw [List.getElem?_modify];cases l[j]? <;> simp [show ¬ k = j from fun h=>e h.symm]
     rw [hj2,g1] at h4
     rw [Option.some.inj h4]
     exact h1 y (List.mem_of_getElem? g1)
   ·have hqk:¬ k = q:=fun e=>hk (by rw [e];exact hq)
    have h4:(l.modify k (addT t))[q]? = l[q]?:=by rw [List.getElem?_modify];cases l[q]? <;> simp [hqk]
    rw [hg] at h4
    exact h2 q (List.mem_cons_of_mem _ hq) g h4.symm
 exact key o hn l (fun g hg=>Nat.le_trans (hl g hg) (Nat.le_add_right _ _)) (fun q _ g hg=>hl g (List.mem_of_getElem? hg)) h (List.mem_of_getElem? hi)
theorem foldl_mod_app {f:HN → HN} (o:List Nat):∀ (l m:List HN) (j:Nat),j < l.length → (o.foldl (fun l k=>l.modify k f) (l ++ m))[j]? = (o.foldl (fun l k=>l.modify k f) l)[j]?:=by
 induction o with
 | nil=>intro l m j hj;exact List.getElem?_append_left hj
 | cons k o ih =>
  intro l m j hj
  rw [List.foldl_cons,List.foldl_cons]
  rcases Nat.lt_or_ge k l.length with hk | hk
  ·have e:(l ++ m).modify k f = l.modify k f ++ m:=by
    refine List.ext_getElem? fun i=>?_
    rw [List.getElem?_modify]
    rcases Nat.lt_or_ge i l.length with hi | hi
    ·rw [List.getElem?_append_left hi,List.getElem?_append_left (by rw [List.length_modify];exact hi),List.getElem?_modify]
    ·rw [List.getElem?_append_right hi,List.getElem?_append_right (by rw [List.length_modify];exact hi),List.length_modify]
     cases m[i - l.length]? <;> simp [show ¬ k = i by omega]
   rw [e]
   exact ih _ _ j (by rw [List.length_modify];exact hj)
  ·have e:(l ++ m).modify k f = l ++ m.modify (k - l.length) f:=by
    refine List.ext_getElem? fun i=>?_
    rw [List.getElem?_modify]
    rcases Nat.lt_or_ge i l.length with hi | hi
    ·rw [List.getElem?_append_left hi,List.getElem?_append_left hi]
     cases l[i]? <;> simp [show ¬ k = i by omega]
    ·rw [List.getElem?_append_right hi,List.getElem?_append_right hi,List.getElem?_modify]
     cases m[i - l.length]? with
     | none=>simp
     | some x =>
      by_cases e:k = i
      ·subst e;simp
      ·simp [e,show ¬ k - l.length = i - l.length by omega]
   have e2:l.modify k f = l:=List.modify_eq_self hk
   rw [e,e2]
   exact ih _ _ j hj
theorem foldl_mod_last {f:HN → HN} (o:List Nat):∀ (l m:List HN),(∀ p ∈ o,p < l.length) → ∀ j,j = l.length → (o.foldl (fun l k=>l.modify k f) (l ++ m))[j]? = (l ++ m)[j]?:=by
 intro l m ho j hj
 have key:∀ (o:List Nat) (q:List HN),(∀ p ∈ o,p < j) → (o.foldl (fun l k=>l.modify k f) q)[j]? = q[j]?:=by
  intro o
  induction o with
  | nil=>intro q _;rfl
  | cons k o ih =>
   intro q h
   rw [List.foldl_cons,ih _ fun p hp=>h p (List.mem_cons_of_mem _ hp),List.getElem?_modify]
   have:=h k List.mem_cons_self
   cases q[j]? <;> simp [show ¬ k = j by omega]
 exact key o _ fun p hp=>by rw [hj];exact ho p hp
theorem HOk.step {N:Nat} {evs:List Ev} {k:Nat} {s:BegS} {st:List HN × List Nat} {e:Ev} (h:HOk N evs k s st) (he:begOk s e = true) (hk:k < evs.length) (hek:evs[k] = e):HOk N evs (k + 1) (begNext s e) (hNext N k st e):=by
 obtain ⟨h1,h2,h3,h4,h5,h6,h7,h8,h9,h10⟩:=h
 have htx:=txS_succ evs k hk
 rw [hek] at htx
 have hmem:e ∈ evs:=by rw [← hek];exact List.getElem_mem hk
 have htop:=h4 _ (topH_mem (by omega:1 ≤ st.2.length))
 by_cases k2:e.kind = 2
 ·have hhd:=begOk_close he k2
  obtain ⟨rest,hr⟩:∃ rest,s.opn = (e.num,e.dep,e.name) :: rest:=by
   cases ho:s.opn with
   | nil=>rw [ho] at hhd;cases hhd
   | cons a r=>rw [ho] at hhd;simp at hhd;exact ⟨r,by rw [hhd]⟩
  have e1:hNext N k st e = (st.1.modify (topH st.2) (endH k),st.2.dropLast):=by unfold hNext;rw [if_neg (by omega),if_neg (by omega)]
  have e2:(begNext s e).opn = rest:=by unfold begNext;simp [k2,hr]
  have e3:(begNext s e).next = s.next:=by unfold begNext;simp [k2]
  rw [e1]
  have hsub:∀ p ∈ st.2.dropLast,p ∈ st.2:=fun p hp=>(List.dropLast_sublist st.2).subset hp
  refine ⟨by simp;omega,by simp;omega,by rw [e2];simp [h3,hr],fun p hp=>by rw [List.length_modify];exact h4 p (hsub p hp),fun i g hg hi=>?_,fun g hg=>?_,fun g hg=>?_,fun g hg=>?_,by rw [e3,List.length_modify];exact h9,(List.dropLast_sublist _).nodup h10⟩
  ·obtain ⟨y,q1,q2⟩:=modify_get hg
   have:=h5 i y q1 hi
   rcases q2 with rfl | rfl
   ·exact this
   ·exact this
  ·obtain ⟨j,hj,rfl⟩:=List.getElem_of_mem hg
   obtain ⟨y,q1,q2⟩:=modify_get (List.getElem?_eq_getElem hj)
   have:=h6 y (List.mem_of_getElem? q1)
   rcases q2 with q2 | q2
   ·rw [q2];omega
   ·rw [q2];show y.txt.length ≤ _;omega
  ·obtain ⟨j,hj,rfl⟩:=List.getElem_of_mem hg
   obtain ⟨y,q1,q2⟩:=modify_get (List.getElem?_eq_getElem hj)
   have:=h7 y (List.mem_of_getElem? q1)
   rcases q2 with q2 | q2
   ·rw [q2];exact this
   ·rw [q2];exact this
  ·obtain ⟨y,q1,q2⟩:=modify_get hg
   have:=h8 y q1
   rcases q2 with rfl | rfl
   ·exact this
   ·exact this
 obtain ⟨hnum,h01⟩:=begOk_new he k2
 have e3:(begNext s e).next = s.next + 1:=by unfold begNext;simp [k2]
 rcases h01 with k0 | k1
 ·have e1:hNext N k st e = (st.1 ++ [⟨e,1,topH st.2,true,[],k,N⟩],st.2 ++ [st.1.length]):=by unfold hNext;rw [if_pos k0]
  have e2:(begNext s e).opn = (e.num,e.dep,e.name) :: s.opn:=by unfold begNext;simp [k0]
  rw [e1]
  refine ⟨by simp;omega,by simp,by rw [e2];simp [h3],fun p hp=>?_,fun i g hg hi=>?_,fun g hg=>?_,fun g hg=>?_,fun g hg=>?_,by rw [e3];simp;omega,?_⟩
  ·rw [List.length_append,List.length_singleton]
   rcases List.mem_append.1 hp with hp | hp
   ·have:=h4 p hp;omega
   ·have:p = st.1.length:=by simpa using hp
    omega
  ·rcases snoc_get hg with ⟨_,hg⟩ | ⟨hi2,rfl⟩
   ·exact h5 i g hg hi
   ·show (0:Int) ≤ (topH st.2:Int) ∧ (topH st.2:Int) < (i:Int);omega
  ·rcases List.mem_append.1 hg with hg | hg
   ·have:=h6 g hg;omega
   ·obtain rfl:=List.mem_singleton.1 hg
    exact Nat.zero_le _
  ·rcases List.mem_append.1 hg with hg | hg
   ·exact h7 g hg
   ·obtain rfl:=List.mem_singleton.1 hg
    exact .inl hmem
  ·rcases snoc_get hg with ⟨_,hg⟩ | ⟨hi2,_⟩
   ·exact h8 g hg
   ·omega
  ·refine List.nodup_append.2 ⟨h10,List.nodup_cons.2 ⟨by simp,List.nodup_nil⟩,fun a ha b hb=>?_⟩
   have:b = st.1.length:=by simpa using hb
   have:=h4 a ha
   omega
 ·have e1:hNext N k st e = (st.2.foldl (fun l k=>l.modify k (addT e.text)) (st.1 ++ [⟨e,2,topH st.2,false,e.text,k,k + 1⟩]),st.2):=by unfold hNext;rw [if_neg (by omega),if_pos k1]
  have e2:(begNext s e).opn = s.opn:=by unfold begNext;simp [k1]
  rw [e1]
  have hl:(st.2.foldl (fun l k=>l.modify k (addT e.text)) (st.1 ++ [(⟨e,2,topH st.2,false,e.text,k,k + 1⟩:HN)])).length = st.1.length + 1:=by rw [foldl_modify_len];simp
  have hf:∀ h,(addT e.text h).par = h.par ∧ (addT e.text h).kd = h.kd ∧ (addT e.text h).ev = h.ev:=fun h=>⟨rfl,rfl,rfl⟩
  refine ⟨by rw [hl];omega,by rw [hl];omega,by rw [e2];exact h3,fun p hp=>by rw [hl];have:=h4 p hp;omega,fun i g hg hi=>?_,fun g hg=>?_,fun g hg=>?_,fun g hg=>?_,by rw [e3,hl];omega,h10⟩
  ·obtain ⟨y,q1,q2,_,_⟩:=foldl_modify_get hf _ _ _ _ hg
   rw [q2]
   rcases snoc_get q1 with ⟨_,hy⟩ | ⟨hi2,rfl⟩
   ·exact h5 i y hy hi
   ·show (0:Int) ≤ (topH st.2:Int) ∧ (topH st.2:Int) < (i:Int);omega
  ·obtain ⟨j,hj,rfl⟩:=List.getElem_of_mem hg
   rw [htx]
   have hj2:=List.getElem?_eq_getElem hj
   have hj3:j < st.1.length + 1:=by rw [← hl];exact hj
   rcases Nat.lt_or_ge j st.1.length with hjl | hjl
   ·refine foldl_add_len e.text (txS evs k) st.2 h10 st.1 h6 j _ ?_
    rw [← hj2,foldl_mod_app _ _ _ _ hjl]
   ·have hje:j = st.1.length:=by omega
    subst hje
    rw [foldl_mod_last st.2 st.1 _ h4 _ rfl,List.getElem?_append_right (Nat.le_refl _),Nat.sub_self] at hj2
    rw [← Option.some.inj hj2]
    show e.text.length ≤ _
    omega
  ·obtain ⟨j,hj,rfl⟩:=List.getElem_of_mem hg
   obtain ⟨y,q1,_,_,q4⟩:=foldl_modify_get hf _ _ _ _ (List.getElem?_eq_getElem hj)
   rw [q4]
   rcases snoc_get q1 with ⟨_,hy⟩ | ⟨_,rfl⟩
   ·exact h7 y (List.mem_of_getElem? hy)
   ·exact .inl hmem
  ·obtain ⟨y,q1,q2,q3,_⟩:=foldl_modify_get hf _ _ _ _ hg
   rw [q2,q3]
   rcases snoc_get q1 with ⟨_,hy⟩ | ⟨hi2,_⟩
   ·exact h8 y hy
   ·omega
theorem HOk.all (N:Nat) (evs:List Ev):∀ k,k ≤ evs.length → ∀ s,begAll beg0 (evs.take k) = some s → HOk N evs k s (hAll N evs k):=by
 intro k
 induction k with
 | zero =>
  intro _ s hs
  rw [List.take_zero] at hs
  obtain rfl:beg0 = s:=Option.some.inj hs
  exact hAll_start N evs
 | succ k ih =>
  intro hk s hs
  have hkl:k < evs.length:=by omega
  rw [List.take_succ_eq_append_getElem hkl,begAll_snoc] at hs
  cases ht:begAll beg0 (evs.take k) with
  | none=>rw [ht] at hs;cases hs
  | some t =>
   rw [ht] at hs
   simp only [Option.bind_some] at hs
   split at hs
   ·rename_i hok
    obtain rfl:=Option.some.inj hs
    rw [hAll_succ N evs k hkl]
    exact (ih (by omega) t ht).step hok hkl rfl
   ·cases hs
end Go.Proofs.YtgjokdngbocehaaGreatDoor
namespace Go.Proofs.YtgjokdngbocehaaGreatDoor
open Go.RowKit
theorem own_slice {w:World} {base:Nat} {e:TypeId} {size:Nat} {v:Value} {n:Nat} {xs:List Value} (h:w.ownsRow base e size v n xs) :
  ∃ a c,v = .slice a n c ∧ n ≤ c ∧ (a = none → n = 0) ∧ ∀ ad,a = some ad → ∃ g,ad = ⟨g,0,none⟩ ∧ base ≤ g ∧ g < w.heap.size ∧ w.frozen? ⟨g,0,none⟩ = false ∧ ∀ j u,xs[j]? = some u → w.cell? ⟨g,j,none⟩ = some u:=by
 have hc:=fun g hg=>h.cells (g:=g) hg
 have hl:=h.lt
 have h0:=h
 obtain ⟨h1,h2⟩:=h
 rcases h2 with ⟨rfl,rfl⟩ | ⟨g,cap,cur,rfl,hg,hh,h5,r⟩
 ·exact ⟨none,0,rfl,Nat.le_refl _,fun _=>rfl,fun ad h=>by cases h⟩
 ·refine ⟨_,cap,rfl,h5,fun h=>(by cases h),fun ad he=>⟨g,(by cases he;rfl),hg,(hl g rfl).2,frozen_heap hh,fun j u hj=>?_⟩⟩
  have:=hc g rfl j u hj
  unfold Addr.add at this
  split at this
  ·rename_i h;subst h;exact this
  ·simpa using this
theorem own_some {w:World} {base:Nat} {e:TypeId} {size:Nat} {v:Value} {n:Nat} {xs:List Value} (h:w.ownsRow base e size v (n + 1) xs) :
  ∃ g c,v = .slice (some ⟨g,0,none⟩) (n + 1) c ∧ n + 1 ≤ c ∧ base ≤ g ∧ g < w.heap.size ∧ w.frozen? ⟨g,0,none⟩ = false ∧ ∀ j u,xs[j]? = some u → w.cell? ⟨g,j,none⟩ = some u:=by
 obtain ⟨a,c,rfl,h1,h2,h3⟩:=own_slice h
 cases a with
 | none=>have:=h2 rfl;omega
 | some ad =>
  obtain ⟨g,rfl,h4⟩:=h3 _ rfl
  exact ⟨g,c,rfl,h1,h4⟩
theorem own_pop {w:World} {base:Nat} {e:TypeId} {size:Nat} {g c n:Nat} {xs ys:List Value} (h:w.ownsRow base e size (.slice (some ⟨g,0,none⟩) (n + 1) c) (n + 1) (xs ++ ys)) (hx:xs.length = n * size) :
  w.ownsRow base e size (.slice (some ⟨g,0,none⟩) n c) n xs:=by
 obtain ⟨h1,h2⟩:=h
 rcases h2 with ⟨h0,_⟩ | ⟨g',cap',cur,hv,hg,hh,hn,hcap,hsz,htake⟩
 ·cases h0
 ·cases hv
  refine ⟨hx,.inr ⟨g,c,cur,rfl,hg,hh,by omega,hcap,hsz,?_⟩⟩
  have h3:(cur.toList.take ((n + 1) * size)).take (n * size) = (xs ++ ys).take (n * size):=by rw [htake]
  rw [List.take_take,Nat.min_eq_left (Nat.mul_le_mul_right _ (by omega))] at h3
  rw [h3,← hx,List.take_left']
  rfl
end Go.Proofs.YtgjokdngbocehaaGreatDoor
namespace Go.Proofs.YtgjokdngbocehaaGreatDoor
open Go.RowKit
structure TsAt (w:World) (a:Option Addr) (n:Nat) (l:List Int):Prop where
 len:n = l.length
 at':∀ i,(h:i < l.length) → ∃ b o,a = some ⟨b,o,none⟩ ∧ b < w.heap.size ∧ w.cell? ⟨b,o + i,none⟩ = some (.int .i64 l[i])
theorem TsAt.below {w w':World} {a:Option Addr} {n:Nat} {l:List Int} (h:TsAt w a n l) (hb:Below w.heap.size w w'):TsAt w' a n l :=
 ⟨h.len,fun i hi=>by
  obtain ⟨b,o,e,hlt,hc⟩:=h.at' i hi
  exact ⟨b,o,e,Nat.lt_of_lt_of_le hlt hb.size,(hb.cell (p:=⟨b,o + i,none⟩) hlt).trans hc⟩⟩
theorem TsAt.far {w:World} {a:Option Addr} {n:Nat} {l:List Int} (h:TsAt w a n l) {P j:Nat} (hne:∀ ad,a = some ad → ad.block ≠ P) (v:Value):TsAt (w.setCell ⟨P,j,none⟩ v) a n l :=
 ⟨h.len,fun i hi=>by
  obtain ⟨b,o,e,hlt,hc⟩:=h.at' i hi
  refine ⟨b,o,e,by rw [show (w.setCell ⟨P,j,none⟩ v).heap.size = w.heap.size by simp [World.setCell]];exact hlt,?_⟩
  rw [← hc]
  unfold World.cell?
  rw [Below.heap_setCell _ _ _ _ (show b ≠ P from hne _ e)]⟩
set_option maxRecDepth 100000 in
set_option maxHeartbeats 1000000 in
theorem good_any (t:Int) (w:World):Calls Tryz.prog 110 #[.int .i64 t] w fun e w'=>e = .returned (.bool (decide (0 ≤ t ∧ t ≤ 2))) ∧ w' = w:=by
 by_cases h0:0 ≤ t
 ·by_cases h2:t ≤ 2
  ·rw [decide_eq_true ⟨h0,h2⟩]
   go_enter Tryz.func110,Tryz.ntmps110
   go_wp2_with fail
   go_ret
   exact ⟨rfl,rfl⟩
  ·rw [decide_eq_false (by omega)]
   have h2':2 < t:=by omega
   clear h2
   go_enter Tryz.func110,Tryz.ntmps110
   go_wp2_with fail
   go_ret
   exact ⟨ret_bool (by simp;omega),rfl⟩
 ·rw [decide_eq_false (by omega)]
  have h0':t < 0:=by omega
  clear h0
  go_enter Tryz.func110,Tryz.ntmps110
  go_wp2_with fail
  go_ret
  exact ⟨rfl,rfl⟩
set_option maxRecDepth 100000 in
set_option maxHeartbeats 1000000 in
theorem seen_any (t:Int) (w:World):Calls Tryz.prog 83 #[.int .i64 t] w fun e w'=>e = .returned (.int .i64 (seenI t)) ∧ w' = w:=by
 have HG:=Lib.hid (good_any t)
 unfold seenI
 by_cases h:0 ≤ t ∧ t ≤ 2
 ·rw [if_pos h]
  rw [decide_eq_true h] at HG
  clear h
  go_enter Tryz.func83,Tryz.ntmps83
  go_wp2_with fail
  (with_reducible refine (HG.out _).mono ?_)
  rintro e w2 ⟨rfl,rfl⟩
  go_wp2_with fail
  go_ret
  exact ⟨rfl,rfl⟩
 ·rw [if_neg h]
  rw [decide_eq_false h] at HG
  clear h
  go_enter Tryz.func83,Tryz.ntmps83
  go_wp2_with fail
  (with_reducible refine (HG.out _).mono ?_)
  rintro e w2 ⟨rfl,rfl⟩
  go_wp2_with fail
  go_ret
  exact ⟨rfl,rfl⟩
set_option maxRecDepth 100000 in
set_option maxHeartbeats 1000000 in
theorem kNot_any (t:Int) (w:World):Calls Tryz.prog 66 #[.int .i64 t] w fun e w'=>e = .returned (.int .i64 (notI t)) ∧ w' = w:=by
 have HG:=Lib.hid (seen_any t)
 have h3:=seenI_3 t
 unfold notI
 generalize seenI t = s at *
 unfold T3 at h3
 have ew:IntKind.i64.wrap (2 - s) = 2 - s:=IntWalk.i64_in _ (by omega)
 go_enter Tryz.func66,Tryz.ntmps66
 go_wp2_with fail
 (with_reducible refine (HG.out _).mono ?_)
 rintro e w2 ⟨rfl,rfl⟩
 go_wp2_with fail
 go_ret
 exact ⟨rfl,rfl⟩
set_option maxRecDepth 100000 in
set_option maxHeartbeats 1000000 in
theorem truth_any (b:Bool) (w:World):Calls Tryz.prog 48 #[.bool b] w fun e w'=>e = .returned (.int .i64 (truthI b)) ∧ w' = w:=by
 cases b with
 | true =>
  go_enter Tryz.func48,Tryz.ntmps48
  go_wp2_with fail
  go_ret
  exact ⟨rfl,rfl⟩
 | false =>
  go_enter Tryz.func48,Tryz.ntmps48
  go_wp2_with fail
  go_ret
  exact ⟨rfl,rfl⟩
set_option maxRecDepth 100000 in
set_option maxHeartbeats 4000000 in
theorem kAnd_any (a:Option Addr) (n c:Nat) (l:List Int) (w:World) (h:TsAt w a n l) (hn:n ≤ 1048576):Calls Tryz.prog 65 #[.slice a n c] w fun e w'=>e = .returned (.int .i64 (andL l)) ∧ w' = w:=by
 have HL:Hid (l.length = n):=Lib.hid h.len.symm
 have H1:=Lib.hid h.at'
 have HS:=Lib.hid seen_any
 obtain ⟨R,hR⟩:∃ R,andL l = R:=⟨_,rfl⟩
 rw [hR]
 have HR:=Lib.hid hR
 clear h hR
 go_enter Tryz.func65,Tryz.ntmps65
 go_wp2_with fail
 go_loopw [3,8] (fun av iv wr=>∃ (i:Nat) (r:Int),iv = .int .i64 i ∧ av = .int .i64 r ∧ i ≤ n ∧ Hid (wr = w) ∧ Hid ((l.drop i).foldl (fun a t=>min a (seenI t)) r = R)) (fun _ iv _=>n - (intOf iv).toNat)
 case atStart=>exact ⟨0,2,rfl,rfl,Nat.zero_le _,(by first | exact Lib.hid rfl | exact Lib.hid trivial),HR⟩
 case round =>
  obtain ⟨i,r,rfl,rfl,hin,HW,HJ⟩:=hrel
  obtain rfl:=HW.out
  by_cases hi:i < n
  ·have i1:(0:Int) ≤ (i:Int):=by omega
   have i2:(i:Int) < (n:Int):=by omega
   have ewi:IntKind.i64.wrap ((i:Int) + 1) = (i:Int) + 1:=IntWalk.i64_in _ (by omega)
   have hil:i < l.length:=by rw [HL.out];exact hi
   obtain ⟨b,o,rfl,_,hc⟩:=H1.out i hil
   have HNX:Hid ((l.drop (i + 1)).foldl (fun a t=>min a (seenI t)) (min r (seenI l[i])) = R):=Lib.hid (by
    have:=HJ.out
    rw [List.drop_eq_getElem_cons hil] at this
    exact this)
   generalize l[i] = t at *
   have HST:=Lib.hid (HS.out t wr)
   generalize seenI t = st at *
   go_wp2_with fail
   (with_reducible refine HST.out.mono ?_)
   rintro e w2 ⟨rfl,rfl⟩
   go_wp2_with fail
   go_roundw
   case rel=>exact ⟨i + 1,_,by go_num,rfl,by omega,(by first | exact Lib.hid rfl | exact Lib.hid trivial),HNX⟩
   case measure=>simp [intOf];omega
  ·have i4:(n:Int) ≤ (i:Int):=by omega
   have HE:Hid (r = R):=Lib.hid (by
    have:=HJ.out
    rw [List.drop_of_length_le (by rw [HL.out];omega)] at this
    exact this)
   go_wp2_with fail
   go_ret
   exact ⟨ret_int HE.out,rfl⟩
set_option maxRecDepth 100000 in
set_option maxHeartbeats 4000000 in
theorem kOr_any (a:Option Addr) (n c:Nat) (l:List Int) (w:World) (h:TsAt w a n l) (hn:n ≤ 1048576):Calls Tryz.prog 49 #[.slice a n c] w fun e w'=>e = .returned (.int .i64 (orL l)) ∧ w' = w:=by
 have HL:Hid (l.length = n):=Lib.hid h.len.symm
 have H1:=Lib.hid h.at'
 have HS:=Lib.hid seen_any
 obtain ⟨R,hR⟩:∃ R,orL l = R:=⟨_,rfl⟩
 rw [hR]
 have HR:=Lib.hid hR
 clear h hR
 go_enter Tryz.func49,Tryz.ntmps49
 go_wp2_with fail
 go_loopw [3,8] (fun av iv wr=>∃ (i:Nat) (r:Int),iv = .int .i64 i ∧ av = .int .i64 r ∧ i ≤ n ∧ Hid (wr = w) ∧ Hid ((l.drop i).foldl (fun a t=>max a (seenI t)) r = R)) (fun _ iv _=>n - (intOf iv).toNat)
 case atStart=>exact ⟨0,0,rfl,rfl,Nat.zero_le _,(by first | exact Lib.hid rfl | exact Lib.hid trivial),HR⟩
 case round =>
  obtain ⟨i,r,rfl,rfl,hin,HW,HJ⟩:=hrel
  obtain rfl:=HW.out
  by_cases hi:i < n
  ·have i1:(0:Int) ≤ (i:Int):=by omega
   have i2:(i:Int) < (n:Int):=by omega
   have ewi:IntKind.i64.wrap ((i:Int) + 1) = (i:Int) + 1:=IntWalk.i64_in _ (by omega)
   have hil:i < l.length:=by rw [HL.out];exact hi
   obtain ⟨b,o,rfl,_,hc⟩:=H1.out i hil
   have HNX:Hid ((l.drop (i + 1)).foldl (fun a t=>max a (seenI t)) (max r (seenI l[i])) = R):=Lib.hid (by
    have:=HJ.out
    rw [List.drop_eq_getElem_cons hil] at this
    exact this)
   generalize l[i] = t at *
   have HST:=Lib.hid (HS.out t wr)
   generalize seenI t = st at *
   go_wp2_with fail
   (with_reducible refine HST.out.mono ?_)
   rintro e w2 ⟨rfl,rfl⟩
   go_wp2_with fail
   go_roundw
   case rel=>exact ⟨i + 1,_,by go_num,rfl,by omega,(by first | exact Lib.hid rfl | exact Lib.hid trivial),HNX⟩
   case measure=>simp [intOf];omega
  ·have i4:(n:Int) ≤ (i:Int):=by omega
   have HE:Hid (r = R):=Lib.hid (by
    have:=HJ.out
    rw [List.drop_of_length_le (by rw [HL.out];omega)] at this
    exact this)
   go_wp2_with fail
   go_ret
   exact ⟨ret_int HE.out,rfl⟩
end Go.Proofs.YtgjokdngbocehaaGreatDoor
namespace Go.Proofs.YtgjokdngbocehaaGreatDoor
open Go.RowKit
set_option maxHeartbeats 400000 in
theorem ordered_any (a0 a1:Option Addr) (n0 c0 n1 c1:Nat) (xs ys:List Int) (w:World)
  (h0:Sl w a0 n0 (xs.map (Value.int .i32))) (h1:Sl w a1 n1 (ys.map (Value.int .i32))) (hm0:n0 ≤ 1048576) :
  Calls Tryz.prog 143 #[.slice a0 n0 c0,.slice a1 n1 c1] w fun e w'=>e = .returned (.int .i64 (cmpL xs ys)) ∧ ∃ n,w' = w.drewN n:=by
 have HX:Hid (n0 = xs.length):=Lib.hid (by have:=h0.len;simpa using this)
 have HY:Hid (n1 = ys.length):=Lib.hid (by have:=h1.len;simpa using this)
 have H0:=Lib.hid h0
 have H1:=Lib.hid h1
 clear h0 h1
 go_enter Tryz.func143,Tryz.ntmps143
 go_wp2
 go_loopw [5] (fun i w'=>∃ k:Nat,k ≤ n0 ∧ k ≤ n1 ∧ i = .int .i64 k ∧ (∃ n,w' = w.drewN n) ∧ Hid (cmpL (xs.drop k) (ys.drop k) = cmpL xs ys)) (fun i _=>n0 - (intOf i).toNat)
 case atStart=>exact ⟨0,Nat.zero_le _,Nat.zero_le _,rfl,⟨0,rfl⟩,rfl⟩
 case round =>
  obtain ⟨k,hk0,hk1,rfl,⟨n,rfl⟩,hr⟩:=hrel
  by_cases hlt:k < n0 ∧ k < n1
  ·obtain ⟨hl0,hl1⟩:=hlt
   have l0:k < xs.length:=by rw [← HX.out];exact hl0
   have l1:k < ys.length:=by rw [← HY.out];exact hl1
   obtain ⟨b0,o0,rfl,_,e0⟩:=H0.out.cell k (by simpa using l0)
   obtain ⟨b1,o1,rfl,_,e1⟩:=H1.out.cell k (by simpa using l1)
   simp only [List.getElem_map] at e0 e1
   have hd:=cmpL_drop xs ys k l0 l1
   rw [hr.out] at hd
   generalize xs[k] = x at e0 hd
   generalize ys[k] = y at e1 hd
   have HD:=Lib.hid hd
   clear hd l0 l1
   have hd0:decide ((k:Int) < n0) = true:=by simp;omega
   have hd1:decide ((k:Int) < n1) = true:=by simp;omega
   go_wp2_with (go_quiet (fail))
   ·have hlt:x < y:=by assumption
    go_ret
    exact ⟨ret_int (by rw [HD.out,if_pos hlt]),_,by simp only [World.drewN_drewN];rfl⟩
   ·have hlt:y < x:=by assumption
    go_ret
    exact ⟨ret_int (by rw [HD.out,if_neg (by omega),if_pos hlt]),_,by simp only [World.drewN_drewN];rfl⟩
   ·go_roundw
    case rel=>exact ⟨k + 1,by omega,by omega,by go_num,⟨_,rfl⟩,by rw [HD.out,if_neg (by omega),if_neg (by omega)];rfl⟩
    case measure=>simp [intOf];omega
  ·have hd:=cmpL_end xs ys k (by rw [← HX.out,← HY.out];exact hlt) (by rw [← HX.out];exact hk0) (by rw [← HY.out];exact hk1)
   rw [hr.out,← HX.out,← HY.out] at hd
   have HD:=Lib.hid hd
   clear hd
   go_wp2
   all_goals (go_ret;refine ⟨ret_int ?_,_,rfl⟩;rw [HD.out];(repeat (first | rw [if_pos (by omega)] | rw [if_neg (by omega)])))
set_option maxHeartbeats 400000 in
theorem Length_any (s:ByteArray) (w:World) (hs:s.size ≤ 1048576) :
  Calls Tryz.prog 122 #[.string s] w fun e w'=>e = .returned (.int .i64 ((runesOf s).length:Int)) ∧ Below w.heap.size w w':=by
 go_enter Tryz.func122,Tryz.ntmps122
 go_wp2
 go_loopw [3] (fun n w'=>∃ (pos k:Nat),w' = w.iter s pos ∧ n = .int .i64 k ∧ Hid (k + (runesAt s pos).length = (runesOf s).length)) (fun _ w'=>s.size - w'.iterPos w.heap.size)
 case atStart=>exact ⟨0,0,rfl,rfl,by rw [runesAt_zero];exact Nat.zero_add _⟩
 case round =>
  obtain ⟨pos,k,rfl,rfl,hr⟩:=hrel
  by_cases hp:pos < s.size
  ·have hnx:∀ ty,(Instr.next (.pointer (some ⟨w.heap.size,0,none⟩)) true ty).run Tryz.prog (w.iter s pos) = _:=fun ty=>run_next_any w s pos ty hp
   have hwd:=width_pos s pos hp
   have hst:=hr.out
   rw [runesAt_step s pos hp,List.length_cons] at hst
   have hkb:k + 1 ≤ s.size:=by have:=runesOf_length s;omega
   have HST:=Lib.hid hst
   clear hst
   go_wp2
   go_roundw
   case rel =>
    refine ⟨pos + (Utf8.decode s pos).2,k + 1,rfl,by go_num,?_⟩
    have:=HST.out
    show _ = _
    omega
   case measure =>
    simp
    omega
  ·have hnx:∀ ty,(Instr.next (.pointer (some ⟨w.heap.size,0,none⟩)) true ty).run Tryz.prog (w.iter s pos) = _:=fun ty=>run_next_end w s pos ty hp
   go_wp2
   go_ret
   refine ⟨ret_int ?_,?_⟩
   ·have:=hr.out
    rw [runesAt_end s pos hp] at this
    rw [← this];simp
   ·exact (Below.refl _ _).alloc (Nat.le_refl _) _
def RetB (e:Ending) (w:World) (xs:List Value):Prop:=∃ g n c,e = .returned (.slice (some ⟨g,0,none⟩) n c) ∧ n ≤ c ∧ Sl w (some ⟨g,0,none⟩) n xs
theorem info_rune:(Tryz.prog.info? 21).map (fun i=>(i.zero,i.size,i.bytes)) = some (some (.int .i32 0),1,4):=by kernel_rfl
set_option maxHeartbeats 400000 in
set_option maxRecDepth 100000 in
theorem runes_box (s:ByteArray) (w:World) (hs:s.size ≤ 1048576) :
  Calls Tryz.prog 144 #[.string s] w fun e w'=>RetB e w' ((runesOf s).map (Value.int .i32)) ∧ Below w.heap.size w w':=by
 obtain ⟨i0,hi,hz0,hz1,hz2⟩:=info_parts info_rune
 go_enter Tryz.func144,Tryz.ntmps144
 go_wp2_with (at_make;refine wpList_make_own _ rfl _ _ 187 rfl w.heap.size 21 i0 (.int .i32 0) 1 Tryz.underlying187 hi hz0 hz1 .i64 .i64 s.size s.size rfl rfl rfl (by rw [hz2];omega) (by unfold maxLen;omega) (Nat.le_refl _) ?_;intro w1 hown1 hgrow1)
 have hb1:Below w.heap.size w w1:=(Below.refl _ _).grown hgrow1 (Nat.le_refl _) (by intro k hk;cases hk)
 have hlt1:=hown1.lt _ rfl
 go_loopw [3] (fun v wr=>∃ (pos n:Nat) (l:List Int),wr.heap[w1.heap.size]? = some (.stringIter s pos) ∧ Below w.heap.size w wr ∧ wr.ownsRow w.heap.size 21 1 v n (l.map (Value.int .i32)) ∧ Hid (v.ownBlock ≠ some w1.heap.size) ∧ Hid (∃ g c,v = .slice (some ⟨g,0,none⟩) n c ∧ n ≤ c) ∧ Hid (l ++ runesAt s pos = runesOf s) ∧ Hid (l.length = n)) (fun _ wr=>s.size - wr.iterPos w1.heap.size)
 case atStart =>
  refine ⟨0,0,[],World.iter_heap _ _ _,hb1.alloc hb1.size _,hown1.alloc _,?_,Lib.hid ⟨_,_,rfl,Nat.zero_le _⟩,?_,rfl⟩
  ·intro hk;injection hk with hk;have:=hlt1.2;simp at hk;omega
  ·show _ = _;rw [runesAt_zero];rfl
 case round =>
  obtain ⟨pos,n,l,hit,hbw,hown,hne,HVS,hr,hln⟩:=hrel
  have hsz:w1.heap.size < wr.heap.size:=(Array.getElem?_eq_some_iff.1 hit).1
  by_cases hp:pos < s.size
  ·have hnx:∀ ty,(Instr.next (.pointer (some ⟨w1.heap.size,0,none⟩)) true ty).run Tryz.prog wr = _:=fun ty=>Lib.run_next_any_at wr w1.heap.size s pos ty hit hp
   have hwd:=width_pos s pos hp
   have hst:=hr.out
   have hll:=hln.out
   rw [runesAt_step s pos hp] at hst
   have hnb:n + 1 ≤ s.size:=by
    have h1:=runesOf_length s
    rw [← hst] at h1
    simp at h1
    omega
   have HST:=Lib.hid hst
   have HIT:=Lib.hid hit
   clear hst hll
   generalize hw2:wr.iterAt w1.heap.size s (pos + (Utf8.decode s pos).2) = w2 at hnx
   have hit2:w2.heap[w1.heap.size]? = some (.stringIter s (pos + (Utf8.decode s pos).2)):=by rw [← hw2];exact Lib.iterAt_heap wr w1.heap.size s pos _ hit
   have hbw2:Below w.heap.size w w2:=by rw [← hw2];exact Lib.below_iterAt hbw (by omega) s _
   have hown2:=own_block (w':=w2) hown (fun k hk=>by rw [← hw2];exact Lib.iterAt_other wr w1.heap.size k s _ (fun e=>hne.out (by rw [hk,e])))
   have hsz2:w2.heap.size = wr.heap.size:=by rw [← hw2,Lib.iterAt_size]
   clear hw2 hit hbw hown
   have hsz3:w1.heap.size < w2.heap.size:=by omega
   have hsz4:w.heap.size ≤ w2.heap.size:=by have:=hb1.size;omega
   clear hsz2
   go_wp2_with (at_builtin;refine wpList_app w2 rfl _ _ 187 (by rfl) w.heap.size 21 i0 (.int .i32 0) 1 4 Tryz.underlying187 hi hz0 hz1 hz2 rfl (by decide) _ n _ (by rfl) hown2 _ rfl 1 [.int .i32 (Utf8.decode s pos).1] (by rfl) rfl (by simp [Value.oneCell']) (by omega) (by decide) hsz4 (fun v3 w3 hown3 happ3=>?_))
   have hbl:=hown2.lt
   have hk3:=happ3.keep (k:=w1.heap.size) (by simp;omega) hne.out
   have hn3:=happ3.ne (k:=w1.heap.size) (by simp;omega) hne.out
   have hb3:=(hbw2.alloc (Nat.le_trans hsz4 (Nat.le_refl _)) (.cells #[.int .i32 (Utf8.decode s pos).1] 21)).trans (happ3.below (by simp;omega) (fun k hk=>(hbl k hk).1))
   go_roundw
   case rel =>
    refine ⟨pos + (Utf8.decode s pos).2,n + 1,l ++ [((Utf8.decode s pos).1:Int)],?_,hb3,by simpa using hown3,hn3,Lib.hid (by obtain ⟨g,c,e1,e2,_⟩:=own_some hown3;exact ⟨g,c,e1,e2⟩),?_,?_⟩
    ·rw [hk3,Below.heap_alloc _ _ _ (by omega)];exact hit2
    ·show _ = _;rw [← HST.out];simp
    ·show _ = _;rw [← hln.out];simp
   case measure =>
    have e1:w3.iterPos w1.heap.size = pos + (Utf8.decode s pos).2:=by
     unfold World.iterPos;rw [hk3,Below.heap_alloc _ _ _ (by omega),hit2]
    have e2:wr.iterPos w1.heap.size = pos:=by unfold World.iterPos;rw [HIT.out]
    rw [e1,e2]
    omega
  ·have hnx:∀ ty,(Instr.next (.pointer (some ⟨w1.heap.size,0,none⟩)) true ty).run Tryz.prog wr = _:=fun ty=>Lib.run_next_end_at wr w1.heap.size s pos ty hit hp
   have hst:=hr.out
   rw [runesAt_end s pos hp,List.append_nil] at hst
   subst hst
   go_wp2
   go_ret
   obtain ⟨a,c,e1,hsl⟩:=own_sl hown
   obtain ⟨g,c',e2,hnc⟩:=HVS.out
   rw [e2] at e1
   cases e1
   exact ⟨⟨g,n,_,e2 ▸ rfl,hnc,hsl⟩,hbw⟩
theorem runes_any (s:ByteArray) (w:World) (hs:s.size ≤ 1048576) :
  Calls Tryz.prog 144 #[.string s] w fun e w'=>RetSl e w' ((runesOf s).map (Value.int .i32)) ∧ Below w.heap.size w w' :=
 (runes_box s w hs).mono fun _ _ ⟨⟨_,n,c,h1,_,h3⟩,hb⟩=>⟨⟨_,n,c,h1,h3⟩,hb⟩
set_option maxHeartbeats 400000 in
theorem Compare_any (s t:ByteArray) (w:World) (hs:s.size ≤ 1048576) (ht:t.size ≤ 1048576) :
  Calls Tryz.prog 118 #[.string s,.string t] w fun e w'=>e = .returned (.int .i64 (cmpL (runesOf s) (runesOf t))) ∧ Below w.heap.size w w':=by
 go_enter Tryz.func118,Tryz.ntmps118
 go_wp2_with fail
 refine (runes_any s _ hs).mono ?_
 rintro e w1 ⟨⟨a,n,c,rfl,h1⟩,b1⟩
 go_wp2_with fail
 refine (runes_any t _ ht).mono ?_
 rintro e w2 ⟨⟨a2,n2,c2,rfl,h2⟩,b2⟩
 have h1':=h1.below b2
 have hn:n ≤ 1048576:=by have:=h1.len;have:=runesOf_length s;simp at *;omega
 go_wp2_with fail
 refine (ordered_any a a2 n c n2 c2 _ _ _ h1' h2 hn).mono ?_
 rintro e w3 ⟨rfl,m,rfl⟩
 go_wp2_with fail
 go_ret
 exact ⟨rfl,Below.drewN (Below.tr b1 b2) m⟩
end Go.Proofs.YtgjokdngbocehaaGreatDoor
namespace Go.Proofs.YtgjokdngbocehaaGreatDoor
open Go.RowKit
def i32s (l:List Int):List Value:=l.map (Value.int .i32)
theorem i32s_len (l:List Int):(i32s l).length = l.length:=by simp [i32s]
theorem Sl.head {w:World} {a:Option Addr} {n:Nat} {xs:List Value} (h:Sl w a n xs) (k:Nat) (hk:k ≤ n):Sl w a k (xs.take k):=by
 have hn:=h.len
 refine ⟨by rw [List.length_take];omega,fun i hi=>?_⟩
 rw [List.length_take] at hi
 obtain ⟨b,o,e,hlt,hc⟩:=h.cell i (by omega)
 exact ⟨b,o,e,hlt,by rw [List.getElem_take];exact hc⟩
theorem Sl.tail {w:World} {b o n:Nat} {xs:List Value} (h:Sl w (some ⟨b,o,none⟩) n xs) (k:Nat) (hk:k ≤ n):Sl w (some ⟨b,o + k,none⟩) (n - k) (xs.drop k):=by
 have hn:=h.len
 refine ⟨by rw [List.length_drop];omega,fun i hi=>?_⟩
 rw [List.length_drop] at hi
 obtain ⟨b',o',e,hlt,hc⟩:=h.cell (k + i) (by omega)
 cases e
 refine ⟨b,o + k,rfl,hlt,?_⟩
 rw [List.getElem_drop,show o + k + i = o + (k + i) by omega];exact hc
theorem i32s_take (l:List Int) (k:Nat):(i32s l).take k = i32s (l.take k):=by simp [i32s,List.map_take]
theorem i32s_drop (l:List Int) (k:Nat):(i32s l).drop k = i32s (l.drop k):=by simp [i32s,List.map_drop]
set_option maxHeartbeats 1000000 in
theorem alike_any (a0 a1:Option Addr) (n0 c0 n1 c1:Nat) (xs ys:List Int) (w:World)
  (h0:Sl w a0 n0 (i32s xs)) (h1:Sl w a1 n1 (i32s ys)) (hm0:n0 ≤ 1048576) :
  Calls Tryz.prog 145 #[.slice a0 n0 c0,.slice a1 n1 c1] w fun e w'=>e = .returned (.bool (decide (xs = ys))) ∧ ∃ n,w' = w.drewN n:=by
 have HX:Hid (n0 = xs.length):=Lib.hid (by have:=h0.len;rw [i32s_len] at this;exact this)
 have HY:Hid (n1 = ys.length):=Lib.hid (by have:=h1.len;rw [i32s_len] at this;exact this)
 have H0:=Lib.hid h0
 have H1:=Lib.hid h1
 clear h0 h1
 by_cases hne:n0 = n1
 rotate_left
 ·have hd:decide (xs = ys) = false:=decide_eq_false fun e=>hne (by rw [HX.out,HY.out,e])
  rw [hd]
  have q:((n0:Int) != n1) = true:=by simp;omega
  have q2:((n0:Int) == n1) = false:=by simp;omega
  clear hd
  go_enter Tryz.func145,Tryz.ntmps145
  go_wp2_with fail
  go_ret
  exact ⟨rfl,0,rfl⟩
 subst hne
 have q:((n0:Int) != n0) = false:=by simp
 have q2:((n0:Int) == n0) = true:=by simp
 go_enter Tryz.func145,Tryz.ntmps145
 go_wp2_with fail
 go_loopw [13] (fun i w'=>∃ k:Nat,k ≤ n0 ∧ i = .int .i64 k ∧ (∃ n,w' = w.drewN n) ∧ Hid (∀ j,j < k → xs[j]? = ys[j]?)) (fun i _=>n0 - (intOf i).toNat)
 case atStart=>exact ⟨0,Nat.zero_le _,rfl,⟨0,rfl⟩,Lib.hid fun j h=>absurd h (Nat.not_lt_zero _)⟩
 case round =>
  obtain ⟨k,hk0,rfl,⟨n,rfl⟩,hr⟩:=hrel
  by_cases hlt:k < n0
  ·have l0:k < xs.length:=by rw [← HX.out];exact hlt
   have l1:k < ys.length:=by rw [← HY.out];exact hlt
   obtain ⟨b0,o0,rfl,_,e0⟩:=H0.out.cell k (by rw [i32s_len];exact l0)
   obtain ⟨b1,o1,rfl,_,e1⟩:=H1.out.cell k (by rw [i32s_len];exact l1)
   simp only [i32s,List.getElem_map] at e0 e1
   have HXK:Hid (xs[k]? = some xs[k]):=Lib.hid (List.getElem?_eq_getElem l0)
   have HYK:Hid (ys[k]? = some ys[k]):=Lib.hid (List.getElem?_eq_getElem l1)
   generalize xs[k] = x at *
   generalize ys[k] = y at *
   by_cases hxy:x = y
   ·subst hxy
    have t1:((x:Int) != x) = false:=by simp
    clear l0 l1
    go_wp2_with (go_quiet (fail))
    go_roundw
    case rel=>exact ⟨k + 1,by omega,by go_num,⟨_,rfl⟩,Lib.hid fun j hj=>by
     rcases Nat.lt_or_ge j k with h | h
     ·exact hr.out j h
     ·rw [show j = k by omega,HXK.out,HYK.out]⟩
    case measure=>simp [intOf];omega
   ·have t1:((x:Int) != y) = true:=by simpa using hxy
    have hd:decide (xs = ys) = false:=decide_eq_false fun e=>by
     have h1:=HXK.out
     rw [e,HYK.out] at h1
     exact hxy (Option.some.inj h1).symm
    have HD:=Lib.hid hd
    clear l0 l1 hd hxy
    go_wp2_with (go_quiet (fail))
    go_ret
    exact ⟨ret_bool HD.out.symm,_,by simp only [World.drewN_drewN];rfl⟩
  ·have hkn:k = n0:=by omega
   subst hkn
   have hd:decide (xs = ys) = true:=decide_eq_true (by
    refine List.ext_getElem? fun j=>?_
    rcases Nat.lt_or_ge j k with h | h
    ·exact hr.out j h
    ·rw [List.getElem?_eq_none (by have:=HX.out;omega),List.getElem?_eq_none (by have:=HY.out;omega)])
   have HD:=Lib.hid hd
   clear hd
   go_wp2_with fail
   go_ret
   exact ⟨ret_bool HD.out.symm,_,rfl⟩
set_option maxHeartbeats 1000000 in
theorem Begins_any (s t:ByteArray) (w:World) (hs:s.size ≤ 1048576) (ht:t.size ≤ 1048576) :
  Calls Tryz.prog 119 #[.string s,.string t] w fun e w'=>e = .returned (.bool (standsL (runesOf s) (runesOf t) 0)) ∧ Below w.heap.size w w':=by
 have HS:=Lib.hid (fun W=>runes_box s W hs)
 have HT:=Lib.hid (fun W=>runes_box t W ht)
 have hls:=runesOf_length s
 have hlt:=runesOf_length t
 generalize runesOf s = xs at *
 generalize runesOf t = ys at *
 obtain ⟨R,hR⟩:∃ R,standsL xs ys 0 = R:=⟨_,rfl⟩
 rw [hR]
 have HR:=Lib.hid hR
 clear hR
 go_enter Tryz.func119,Tryz.ntmps119
 go_wp2_with fail
 (with_reducible refine (HS.out _).mono ?_)
 rintro e w1 ⟨⟨g0,n0,c0,rfl,hc0,h0⟩,b1⟩
 go_wp2_with fail
 (with_reducible refine (HT.out _).mono ?_)
 rintro e w2 ⟨⟨g1,n1,c1,rfl,hc1,h1⟩,b2⟩
 have hx:n0 = xs.length:=by have:=h0.len;simpa using this
 have hy:n1 = ys.length:=by have:=h1.len;simpa using this
 have h0':Sl w2 (some ⟨g0,0,none⟩) n0 (i32s xs):=h0.below b2
 have HB:=Lib.hid (Below.tr b1 b2)
 by_cases hle:n1 ≤ n0
 ·have HAL:Hid (Calls Tryz.prog 145 #[.slice (some ⟨g0,0,none⟩) n1 c0,.slice (some ⟨g1,0,none⟩) n1 c1] w2 fun e w'=>e = .returned (.bool R) ∧ ∃ n,w' = w2.drewN n):=Lib.hid (by
   rw [← HR.out,standsL_seg xs ys 0 (by omega),List.drop_zero]
   have h2:=h0'.head n1 hle
   rw [i32s_take] at h2
   rw [← hy]
   exact alike_any _ _ n1 c0 n1 c1 _ _ w2 h2 h1 (by omega))
  have HLX:=Lib.hid hx
  clear h0 h1 h0' hx hy hls hlt b1 b2
  have i1:n1 ≤ c0:=by omega
  have i3:(n1:Int) ≤ (n0:Int):=by omega
  have i2:(n1:Int) ≤ (c0:Int):=by omega
  go_wp2_with fail
  (with_reducible refine HAL.out.mono ?_)
  rintro e w3 ⟨rfl,m,rfl⟩
  go_wp2_with fail
  go_ret
  exact ⟨rfl,Below.drewN HB.out m⟩
 ·have HF:Hid (R = false):=Lib.hid (by rw [← HR.out];exact standsL_short xs ys 0 (by omega))
  have i3:(n0:Int) < (n1:Int):=by omega
  clear h0 h1 h0' hx hy hls hlt b1 b2 hle
  go_wp2_with fail
  go_ret
  exact ⟨ret_bool HF.out.symm,HB.out⟩
set_option maxHeartbeats 1000000 in
theorem Ends_any (s t:ByteArray) (w:World) (hs:s.size ≤ 1048576) (ht:t.size ≤ 1048576) :
  Calls Tryz.prog 120 #[.string s,.string t] w fun e w'=>e = .returned (.bool (decide ((runesOf t).length ≤ (runesOf s).length) && standsL (runesOf s) (runesOf t) ((runesOf s).length - (runesOf t).length))) ∧ Below w.heap.size w w':=by
 have HS:=Lib.hid (fun W=>runes_box s W hs)
 have HT:=Lib.hid (fun W=>runes_box t W ht)
 have hls:=runesOf_length s
 have hlt:=runesOf_length t
 generalize runesOf s = xs at *
 generalize runesOf t = ys at *
 obtain ⟨R,hR⟩:∃ R,(decide (ys.length ≤ xs.length) && standsL xs ys (xs.length - ys.length)) = R:=⟨_,rfl⟩
 rw [hR]
 have HR:=Lib.hid hR
 clear hR
 go_enter Tryz.func120,Tryz.ntmps120
 go_wp2_with fail
 (with_reducible refine (HS.out _).mono ?_)
 rintro e w1 ⟨⟨g0,n0,c0,rfl,hc0,h0⟩,b1⟩
 go_wp2_with fail
 (with_reducible refine (HT.out _).mono ?_)
 rintro e w2 ⟨⟨g1,n1,c1,rfl,hc1,h1⟩,b2⟩
 have hx:n0 = xs.length:=by have:=h0.len;simpa using this
 have hy:n1 = ys.length:=by have:=h1.len;simpa using this
 have h0':Sl w2 (some ⟨g0,0,none⟩) n0 (i32s xs):=h0.below b2
 have HB:=Lib.hid (Below.tr b1 b2)
 by_cases hle:n1 ≤ n0
 ·have hdl:standsL xs ys (xs.length - ys.length) = R:=by rw [← HR.out,decide_eq_true (show ys.length ≤ xs.length by omega),Bool.true_and]
  have HAL:Hid (∀ (ad:Option Addr) (m c:Nat),m = n1 → (ad = some ⟨g0,n0 - n1,none⟩ ∨ n1 = 0) → Calls Tryz.prog 145 #[.slice ad m c,.slice (some ⟨g1,0,none⟩) n1 c1] w2 fun e w'=>e = .returned (.bool R) ∧ ∃ n,w' = w2.drewN n):=Lib.hid (by
   intro ad m c hm had
   subst hm
   have e1:(xs.drop (xs.length - ys.length)).take ys.length = xs.drop (xs.length - ys.length):=List.take_of_length_le (by rw [List.length_drop];omega)
   rw [← hdl,standsL_seg xs ys (xs.length - ys.length) (by omega),e1]
   rcases had with rfl | had
   ·have h2:=h0'.tail (n0 - m) (by omega)
    rw [i32s_drop,show n0 - (n0 - m) = m by omega,Nat.zero_add] at h2
    rw [← hy,← hx]
    exact alike_any _ _ m c m c1 _ _ w2 h2 h1 (by omega)
   ·subst had
    have e2:xs.drop (xs.length - ys.length) = []:=by rw [← hy,Nat.sub_zero,List.drop_length]
    rw [e2]
    exact alike_any ad _ 0 c 0 c1 [] _ w2 (Sl.nil w2 ad) h1 (by omega))
  have i4:IntKind.i64.wrap ((n0:Int) - (n1:Int)) = ((n0 - n1:Nat):Int):=by rw [IntWalk.i64_in _ (by omega)];omega
  have i6:n0 - (n0 - n1) = n1:=by omega
  have I6:=Lib.hid i6
  clear h0 h1 h0' hx hy hls hlt b1 b2 hdl i6
  have i3:(n1:Int) ≤ (n0:Int):=by omega
  go_wp2_with fail
  all_goals
   first
    | (with_reducible refine (HAL.out _ _ _ I6.out (.inl rfl)).mono ?_)
    | (with_reducible refine (HAL.out _ _ _ I6.out (.inr (by omega))).mono ?_)
   rintro e w3 ⟨rfl,m,rfl⟩
   go_wp2_with fail
   go_ret
   exact ⟨rfl,Below.drewN HB.out m⟩
 ·have HF:Hid (R = false):=Lib.hid (by rw [← HR.out,decide_eq_false (show ¬ ys.length ≤ xs.length by omega),Bool.false_and])
  have i3:(n0:Int) < (n1:Int):=by omega
  clear h0 h1 h0' hx hy hls hlt b1 b2 hle
  go_wp2_with fail
  go_ret
  exact ⟨ret_bool HF.out.symm,HB.out⟩
end Go.Proofs.YtgjokdngbocehaaGreatDoor
