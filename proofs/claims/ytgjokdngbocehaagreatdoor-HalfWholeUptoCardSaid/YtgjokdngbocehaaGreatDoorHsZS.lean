/-
  Of a whole document all is known: half's rows are what the path means; plain Lean.
-/
import Derived.Test.YtgjokdngbocehaaGreatDoorHsA
import Derived.Test.YtgjokdngbocehaaGreatDoorHsC
import Derived.Test.YtgjokdngbocehaaGreatDoorHsD
import Derived.Test.YtgjokdngbocehaaGreatDoorHsE
import Derived.Test.YtgjokdngbocehaaGreatDoorHsF
import Derived.Test.YtgjokdngbocehaaGreatDoorHsH
import Derived.Test.YtgjokdngbocehaaGreatDoorHsL
import Derived.Test.YtgjokdngbocehaaGreatDoorHsM
import Derived.Test.YtgjokdngbocehaaGreatDoorHsN
import Derived.Test.YtgjokdngbocehaaGreatDoorHsO
import Derived.Test.YtgjokdngbocehaaGreatDoorHsQ
import Derived.Test.YtgjokdngbocehaaGreatDoorHsS
import Derived.Test.YtgjokdngbocehaaGreatDoorHsU
import Derived.Test.YtgjokdngbocehaaGreatDoorHsV
import Derived.Test.YtgjokdngbocehaaGreatDoorHsW
import Derived.Test.YtgjokdngbocehaaGreatDoorHsX
import Derived.Test.YtgjokdngbocehaaGreatDoorHsZ
import Derived.Test.YtgjokdngbocehaaGreatDoorHsZE
import Derived.Test.YtgjokdngbocehaaGreatDoorHsZG
import Derived.Test.YtgjokdngbocehaaGreatDoorHsZH
import Derived.Test.YtgjokdngbocehaaGreatDoorHsZP
import Derived.Test.YtgjokdngbocehaaGreatDoorHsZR
namespace Go.Proofs.YtgjokdngbocehaaGreatDoor
open Go.RowKit
def TR (n:Nat) (l:List Int) (p:Nat → Bool):Prop:=∀ k,k < n → l.getD k 0 = truthI (p k)
theorem truth_and (a b:Bool):Min.min (truthI a) (truthI b) = truthI (a && b):=by cases a <;> cases b <;> rfl
theorem and_swap (a b c:Bool):(a && b && c) = (a && c && b):=by cases a <;> cases b <;> cases c <;> rfl
theorem truth_le (b:Bool) (c:Int):truthI b ≤ c ↔ 0 ≤ c ∧ (b = true → 2 ≤ c):=by
 cases b
 ·unfold truthI;simp
 ·unfold truthI;simp;omega
theorem truth_dec {p:Prop} [Decidable p] {v:Int} (h:∀ c,v ≤ c ↔ 0 ≤ c ∧ (p → 2 ≤ c)):v = truthI (decide p):=by
 refine eq_of_le_iff fun c=>?_
 rw [h,truth_le,decide_eq_true_iff]
structure Full (evs:List Ev) (hs:List HN) (rs:List RN):Prop where
 lk:Lk hs rs
 ps:Pars hs
 len:hs.length = (nodesB evs).length + 1
 shut:∀ m,m < hs.length → opI hs m = 0
 test:∀ (k:Nat) (h:HN),hs[k]? = some h → ∀ s:PS,0 ≤ s.test ∧ s.test ≤ 3 → testT h s = truthI (meetsP (treePT evs) ((k:Int) - 1) s)
 asks:∀ (k:Nat) (h:HN),hs[k]? = some h → ∀ x:PX,asksT h x = truthI (comparesP (treePT evs) ((k:Int) - 1) x)
 leads:∀ (m k:Nat),m < hs.length → k < hs.length → ∀ ax:Int,0 ≤ ax ∧ ax ≤ 3 → (Leads hs rs ax m k ↔ ((k:Int) - 1) ∈ (treePT evs).along ((m:Int) - 1) ax)
section
variable {evs:List Ev} {hs:List HN} {rs:List RN}
theorem Full.met (h:Full evs hs rs) (ex:PX → List Int) (s:PS) (ht:0 ≤ s.test ∧ s.test ≤ 3) (l:List Int) (p:Nat → Bool) (q:Nat → PX → Bool) (hl:TR hs.length l p) (hx:∀ x ∈ s.wher,TR hs.length (ex x) (fun k=>q k x)) :
  TR hs.length (metT ex hs s l) (fun k=>(meetsP (treePT evs) ((k:Int) - 1) s && s.wher.all (q k)) && p k):=by
 intro k hk
 unfold metT
 have key:∀ (w:List PX) (o:List Int) (po:Bool),o.getD k 0 = truthI po → (∀ x ∈ w,(ex x).getD k 0 = truthI (q k x)) → (w.foldl (fun out x=>rowOf hs.length fun k=>andL [out.getD k 0,(ex x).getD k 0]) o).getD k 0 = truthI (po && w.all (q k)):=by
  intro w
  induction w with
  | nil=>intro o po ho _;simpa using ho
  | cons x w ih =>
   intro o po ho hw
   rw [List.foldl_cons,ih _ (po && q k x) ?_ fun y hy=>hw y (List.mem_cons_of_mem _ hy)]
   ·rw [List.all_cons,Bool.and_assoc]
   ·rw [rowOf_getD _ _ _ hk,ho,hw x List.mem_cons_self,andL_two (truthI_3 _) (truthI_3 _),truth_and]
 rw [key s.wher _ (meetsP (treePT evs) ((k:Int) - 1) s && p k) ?_ fun x hx'=>hx x hx' k hk]
 ·congr 1
  exact and_swap _ _ _
 ·rw [rowOf_getD _ _ _ hk,List.getElem?_eq_getElem hk]
  simp only [Option.map_some,Option.getD_some]
  rw [h.test k _ (List.getElem?_eq_getElem hk) s ht,hl k hk,andL_two (truthI_3 _) (truthI_3 _),truth_and]
open Classical in
theorem Full.back (h:Full evs hs rs) (ex:PX → List Int) (s:PS) (ha:0 ≤ s.axis ∧ s.axis ≤ 3) (l:List Int) (p:Nat → Bool) (hm:TR hs.length (metT ex hs s l) p) :
  TR hs.length (backT ex hs s l) (fun m=>decide (∃ k:Nat,k < hs.length ∧ ((k:Int) - 1) ∈ (treePT evs).along ((m:Int) - 1) s.axis ∧ p k = true)):=by
 intro m hml
 refine truth_dec fun c=>?_
 rw [back_le h.lk ex s l ha c m hml,h.shut m hml]
 constructor
 ·rintro ⟨h1,_,h3⟩
  refine ⟨h1,fun ⟨k,k1,k2,k3⟩=>?_⟩
  have:=h3 k k1 ((h.leads m k hml k1 _ ha).2 k2)
  rw [hm k k1,k3] at this
  exact this
 ·rintro ⟨h1,h2⟩
  refine ⟨h1,fun _=>h1,fun k hk hL=>?_⟩
  rw [hm k hk,truth_le]
  exact ⟨h1,fun h3=>h2 ⟨k,hk,(h.leads m k hml hk _ ha).1 hL,h3⟩⟩
theorem someP_iff (T:PT) (fr:List Bool) (x:PX):someP T fr x = true ↔ ∃ k:Nat,fr[k]?.getD false = true ∧ comparesP T ((k:Int) - 1) x = true:=by
 unfold someP
 rw [List.any_eq_true]
 constructor
 ·rintro ⟨k,_,h⟩;rw [Bool.and_eq_true] at h;exact ⟨k,h⟩
 ·rintro ⟨k,h1,h2⟩;exact ⟨k,List.mem_range.2 (fr_lt h1),by rw [h1,h2];rfl⟩
theorem some_nil (T:PT) (n:Int) (x:PX) (h1:-1 ≤ n) (h2:n < T.N):someP T (oneP T.N n) x = comparesP T n x:=by
 rw [Bool.eq_iff_iff,someP_iff]
 constructor
 ·rintro ⟨k,a,b⟩
  have:=((oneP_at ..).1 a).2
  have e:(k:Int) - 1 = n:=by omega
  rw [e] at b;exact b
 ·intro h
  refine ⟨(n + 1).toNat,(oneP_at ..).2 ⟨by omega,by omega⟩,?_⟩
  have e:((n + 1).toNat:Int) - 1 = n:=by omega
  rw [e];exact h
theorem some_cons (hold:Int → PX → Bool) (T:PT) (n:Int) (s:PS) (ss:List PS) (x:PX) (h1:-1 ≤ n) (h2:n < T.N):someP T (stepsP hold T (oneP T.N n) (s :: ss)) x = true ↔ ∃ j:Nat,j < T.N + 1 ∧ ((j:Int) - 1) ∈ T.along n s.axis ∧ meetsP T ((j:Int) - 1) s = true ∧ s.wher.all (hold ((j:Int) - 1)) = true ∧ someP T (stepsP hold T (oneP T.N ((j:Int) - 1)) ss) x = true:=by
 rw [someP_iff,stepsP_cons]
 constructor
 ·rintro ⟨k,a,b⟩
  rw [stepsP_lin hold T T.N ss _ (by rw [stepP_len,oneP_len])] at a
  obtain ⟨j,j1,j2,j3⟩:=a
  obtain ⟨q0,⟨i,p1,p2,p3⟩,q4,q5⟩:=(stepP_at ..).1 j2
  have hi:=((oneP_at ..).1 p2).2
  have e:(i:Int) - 1 = n:=by omega
  rw [e] at p3
  rw [oneP_len] at q0
  exact ⟨j,q0,p3,q4,q5,(someP_iff ..).2 ⟨k,j3,b⟩⟩
 ·rintro ⟨j,j1,j2,j3,j4,j5⟩
  obtain ⟨k,a,b⟩:=(someP_iff ..).1 j5
  refine ⟨k,?_,b⟩
  rw [stepsP_lin hold T T.N ss _ (by rw [stepP_len,oneP_len])]
  have e:((n + 1).toNat:Int) - 1 = n:=by omega
  exact ⟨j,by rw [stepP_len,oneP_len];exact j1,(stepP_at ..).2 ⟨by rw [oneP_len];exact j1,⟨(n + 1).toNat,by rw [oneP_len];omega,(oneP_at ..).2 ⟨by omega,by omega⟩,by rw [e];exact j2⟩,j3,j4⟩,a⟩
theorem Full.expr (h:Full evs hs rs):∀ (f:Nat) (x:PX),goodXB f x = true → TR hs.length (exprT hs f x) (fun k=>holdP (treePT evs) f ((k:Int) - 1) x)
 | 0,_,hg=>by cases hg
 | f + 1,x,hg=>by
  have hlen:=h.len
  have hg':(if x.op = 3 then x.args.isEmpty && goodPB (goodXB f) x.path && (x.attr.isEmpty || nameB x.attr) && goodCB x.cmp x.text x.num
   else bareB x && (if x.op = 0 ∨ x.op = 1 then decide (2 ≤ x.args.length) else if x.op = 2 then decide (x.args.length = 1) else false) && x.args.all (goodXB f)) = true:=hg
  have hNT:(treePT evs).N = (nodesB evs).length:=rfl
  unfold exprT holdP
  by_cases hop:x.op = 3
  ·rw [if_pos hop]
   rw [if_pos hop] at hg'
   simp only [Bool.and_eq_true] at hg'
   have hgp:=hg'.1.1.2
   unfold goodPB at hgp
   rw [Bool.and_eq_true] at hgp
   have hss:=List.all_eq_true.1 hgp.2
   have key:∀ (ss:List PS),(∀ s ∈ ss,goodSB (goodXB f) s = true) → TR hs.length (ss.foldr (fun s out=>backT (exprT hs f) hs s out) (rowOf hs.length fun k=>(hs[k]?.map fun h=>asksT h x).getD 0)) (fun k=>someP (treePT evs) (stepsP (holdP (treePT evs) f) (treePT evs) (oneP (treePT evs).N ((k:Int) - 1)) ss) x):=by
    intro ss
    induction ss with
    | nil =>
     intro _ k hk
     show (rowOf hs.length fun k=>(hs[k]?.map fun h=>asksT h x).getD 0).getD k 0 = truthI (someP (treePT evs) (oneP (treePT evs).N ((k:Int) - 1)) x)
     rw [rowOf_getD _ _ _ hk,List.getElem?_eq_getElem hk,some_nil _ _ _ (by omega) (by omega)]
     exact h.asks k _ (List.getElem?_eq_getElem hk) x
    | cons s ss ih =>
     intro hs2
     have hi:=ih fun y hy=>hs2 y (List.mem_cons_of_mem _ hy)
     have hgs:=hs2 s List.mem_cons_self
     unfold goodSB at hgs
     simp only [Bool.and_eq_true,decide_eq_true_eq] at hgs
     have hmt:=h.met (exprT hs f) s ⟨hgs.1.1.1.2,hgs.1.1.2⟩ _ _ (fun k y=>holdP (treePT evs) f ((k:Int) - 1) y) hi fun y hy=>h.expr f y (List.all_eq_true.1 hgs.2 y hy)
     have hbk:=h.back (exprT hs f) s ⟨hgs.1.1.1.1.1,hgs.1.1.1.1.2⟩ _ _ hmt
     intro k hk
     rw [List.foldr_cons,hbk k hk]
     congr 1
     rw [Bool.eq_iff_iff,decide_eq_true_iff,some_cons _ _ _ _ _ _ (by omega) (by omega)]
     constructor
     ·rintro ⟨j,j1,j2,j3⟩
      simp only [Bool.and_eq_true] at j3
      exact ⟨j,by omega,j2,j3.1.1,j3.1.2,j3.2⟩
     ·rintro ⟨j,j1,j2,j3,j4,j5⟩
      refine ⟨j,by omega,j2,?_⟩
      simp only [Bool.and_eq_true]
      exact ⟨⟨j3,j4⟩,j5⟩
   have hk:=key x.path hss
   intro k hkl
   have e:(if x.op = 0 then x.args.all (holdP (treePT evs) f ((k:Int) - 1)) else if x.op = 1 then x.args.any (holdP (treePT evs) f ((k:Int) - 1)) else if x.op = 2 then !((x.args.head?.map (holdP (treePT evs) f ((k:Int) - 1))).getD false) else someP (treePT evs) (stepsP (holdP (treePT evs) f) (treePT evs) (oneP (treePT evs).N ((k:Int) - 1)) x.path) x) = someP (treePT evs) (stepsP (holdP (treePT evs) f) (treePT evs) (oneP (treePT evs).N ((k:Int) - 1)) x.path) x:=by
    rw [if_neg (by omega),if_neg (by omega),if_neg (by omega)]
   simp only [e]
   exact hk k hkl
  ·rw [if_neg hop]
   rw [if_neg hop] at hg'
   simp only [Bool.and_eq_true] at hg'
   have hargs:=List.all_eq_true.1 hg'.2
   intro k hk
   rw [rowOf_getD _ _ _ hk]
   have hl:∀ y ∈ x.args,(exprT hs f y).getD k 0 = truthI (holdP (treePT evs) f ((k:Int) - 1) y):=fun y hy=>h.expr f y (hargs y hy) k hk
   have hand:∀ (l:List PX) (b:Bool),(∀ y ∈ l,(exprT hs f y).getD k 0 = truthI (holdP (treePT evs) f ((k:Int) - 1) y)) → (l.map fun y=>(exprT hs f y).getD k 0).foldl (fun a t=>Min.min a (seenI t)) (truthI b) = truthI (b && l.all (holdP (treePT evs) f ((k:Int) - 1))):=by
    intro l
    induction l with
    | nil=>intro b _;simp
    | cons y l ih =>
     intro b hy
     rw [List.map_cons,List.foldl_cons,hy y List.mem_cons_self,seenI_of (truthI_3 _),truth_and,ih _ fun z hz=>hy z (List.mem_cons_of_mem _ hz),List.all_cons,Bool.and_assoc]
   have hor:∀ (l:List PX) (b:Bool),(∀ y ∈ l,(exprT hs f y).getD k 0 = truthI (holdP (treePT evs) f ((k:Int) - 1) y)) → (l.map fun y=>(exprT hs f y).getD k 0).foldl (fun a t=>Max.max a (seenI t)) (truthI b) = truthI (b || l.any (holdP (treePT evs) f ((k:Int) - 1))):=by
    intro l
    induction l with
    | nil=>intro b _;simp
    | cons y l ih =>
     intro b hy
     have ho:∀ a b:Bool,Max.max (truthI a) (truthI b) = truthI (a || b):=fun a b=>by cases a <;> cases b <;> rfl
     rw [List.map_cons,List.foldl_cons,hy y List.mem_cons_self,seenI_of (truthI_3 _),ho,ih _ fun z hz=>hy z (List.mem_cons_of_mem _ hz),List.any_cons,Bool.or_assoc]
   by_cases h0:x.op = 0
   ·simp only [if_pos h0]
    have:=hand x.args true hl
    rw [Bool.true_and] at this
    exact this
   ·by_cases h1:x.op = 1
    ·simp only [if_neg h0,if_pos h1]
     have:=hor x.args false hl
     rw [Bool.false_or] at this
     exact this
    ·have h2:x.op = 2:=by
      have:=hg'.1.2
      rw [if_neg (by omega)] at this
      split at this
      ·assumption
      ·cases this
     have hlen1:x.args.length = 1:=by
      have:=hg'.1.2
      rw [if_neg (by omega),if_pos h2] at this
      exact of_decide_eq_true this
     simp only [if_neg h0,if_neg h1,if_pos h2]
     obtain ⟨y,hy⟩:∃ y,x.args = [y]:=List.length_eq_one_iff.1 hlen1
     rw [hy]
     simp only [List.head?_cons,Option.map_some,Option.getD_some]
     rw [hl y (by rw [hy];exact List.mem_cons_self)]
     unfold notI
     rw [seenI_of (truthI_3 _)]
     cases holdP (treePT evs) f ((k:Int) - 1) y <;> rfl
theorem Full.path (h:Full evs hs rs) (f:Nat) (ss:List PS) (hg:∀ s ∈ ss,goodSB (goodXB f) s = true):∀ j,j ≤ ss.length → TR hs.length (pathT (exprT hs f) hs ss j) (fun k=>(stepsP (holdP (treePT evs) f) (treePT evs) (oneP (treePT evs).N (-1)) (ss.take j))[k]?.getD false):=by
 have hlen:=h.len
 have hNT:(treePT evs).N = (nodesB evs).length:=rfl
 intro j
 induction j with
 | zero =>
  intro _ k hk
  rw [pathT_zero,List.take_zero]
  unfold led0
  rw [rowOf_getD _ _ _ hk]
  congr 1
  show decide (k = 0) = (oneP (treePT evs).N (-1))[k]?.getD false
  rw [Bool.eq_iff_iff,decide_eq_true_iff,oneP_at]
  omega
 | succ j ih =>
  intro hj
  have hgs:=hg _ (List.getElem_mem (show j < ss.length by omega))
  unfold goodSB at hgs
  simp only [Bool.and_eq_true,decide_eq_true_eq] at hgs
  have hax:0 ≤ ss[j].axis ∧ ss[j].axis ≤ 3:=⟨hgs.1.1.1.1.1,hgs.1.1.1.1.2⟩
  have p3:=pathT_3 (exprT hs f) hs ss j (by omega)
  have hi:=ih (by omega)
  rw [pathT_succ _ _ _ _ (by omega)]
  unfold ledT
  rw [List.take_succ_eq_append_getElem (by omega),stepsP_app]
  have hlenf:(stepsP (holdP (treePT evs) f) (treePT evs) (oneP (treePT evs).N (-1)) (ss.take j)).length = hs.length:=by rw [stepsP_len,oneP_len];omega
  generalize stepsP (holdP (treePT evs) f) (treePT evs) (oneP (treePT evs).N (-1)) (ss.take j) = fr at *
  have hfr:∀ k,k < hs.length → frT hs (pathT (exprT hs f) hs ss j) ss[j].axis k = truthI (reachP (treePT evs) fr ss[j].axis k):=fun k hk=>by
   refine eq_of_le_iff fun c=>?_
   rw [frT_le h.lk h.ps _ p3 _ hax c k hk,truth_le,reachP_iff]
   constructor
   ·rintro ⟨h1,h2⟩
    refine ⟨h1,fun ⟨m,m1,m2,m3⟩=>?_⟩
    have:=h2 m (by omega) ((h.leads m k (by omega) hk _ hax).2 m3)
    rw [hi m (by omega)] at this
    simp only [m2] at this
    exact this
   ·rintro ⟨h1,h2⟩
    refine ⟨h1,fun m hm hL=>?_⟩
    rw [hi m hm,truth_le]
    exact ⟨h1,fun h3=>h2 ⟨m,by omega,h3,(h.leads m k hm hk _ hax).1 hL⟩⟩
  have hTR:TR hs.length (rowOf hs.length (frT hs (pathT (exprT hs f) hs ss j) ss[j].axis)) (fun k=>reachP (treePT evs) fr ss[j].axis k):=fun k hk=>by rw [rowOf_getD _ _ _ hk,hfr k hk]
  have hmt:=h.met (exprT hs f) ss[j] ⟨hgs.1.1.1.2,hgs.1.1.2⟩ _ _ (fun k y=>holdP (treePT evs) f ((k:Int) - 1) y) hTR fun y hy=>h.expr f y (List.all_eq_true.1 hgs.2 y hy)
  intro k hk
  rw [hmt k hk]
  congr 1
  show _ = (stepP (holdP (treePT evs) f) (treePT evs) fr ss[j])[k]?.getD false
  unfold stepP
  rw [List.getElem?_map,List.getElem?_range (by omega)]
  simp only [Option.map_some,Option.getD_some]
  rw [Bool.and_comm]
end
end Go.Proofs.YtgjokdngbocehaaGreatDoor
namespace Go.Proofs.YtgjokdngbocehaaGreatDoor
open Go.RowKit
theorem full_of {evs:List Ev} {st:BegS} (h:begAll beg0 evs = some st) (hne:evs ≠ []) (ho:st.opn = []):Full evs (readN evs st) (rnAll beg0 [] evs):=by
 have hw:wholeB evs = true:=by unfold wholeB;rw [h];exact decide_eq_true ⟨hne,ho⟩
 have hr:=beg_rel h
 have lk:=(lk_of h).1
 have hs:=rnAll_spec h
 have hinv:=nodesB_inv h
 have hpos:=wholeB_pos hw
 have hno:∀ i:Int,¬ isOpn st i:=fun i ⟨o,ho1,_⟩=>by rw [ho] at ho1;cases ho1
 have hcnt:st.cnt ≠ 0:=by
  have:=hinv.cnt
  intro h0
  exact hne (List.eq_nil_of_length_eq_zero (by omega))
 have hlr:lastR (rnAll beg0 [] evs) = lastN evs:=by
  funext i
  by_cases hi:i < (nodesB evs).length
  ·obtain ⟨x,r,g1,g2,_,_,_,_,g7⟩:=rn_at h i (by rw [hs.len];exact hi)
   have:=g7 (hno i)
   have:=lastN_at h g1
   omega
  ·have e1:lastR (rnAll beg0 [] evs) i = 0:=by unfold lastR;rw [List.getElem?_eq_none (by rw [hs.len];omega)];rfl
   have e2:lastN evs i = 0:=by unfold lastN;rw [List.getElem?_eq_none (by omega)];rfl
   rw [e1,e2]
 have hT:treePT evs = ⟨(nodesB evs).length,alongM (nodesB evs).length (lastN evs),nodeEv evs,fun v=>txtR evs v.toNat (hiOf (nodesB evs).length (lastN evs) v)⟩:=rfl
 obtain ⟨y0,k1,k2,_,k4,k5,k6⟩:=hr.root
 have hy0:(readN evs st)[0]? = some { y0 with op:=!decide (st.opn = [] ∧ st.cnt ≠ 0) }:=by rw [readN_root,k1];rfl
 have hop0:(!decide (st.opn = [] ∧ st.cnt ≠ 0)) = false:=by rw [decide_eq_true ⟨ho,hcnt⟩];rfl
 rw [hop0] at hy0
 have hat:∀ i,i < (rnAll beg0 [] evs).length → ∃ y,(readN evs st)[i + 1]? = some y ∧ y.op = false ∧ y.ev = nodeEv evs i ∧ (y.kd = if y.ev.kind = 0 then 1 else 2) ∧ (y.ev.kind = 0 ∨ y.ev.kind = 1) ∧ y.txt = txtR evs i (lastN evs i + 1):=fun i hi=>by
  have hil:i < (nodesB evs).length:=by rw [← hs.len];exact hi
  have hxi:(nodesB evs)[i]? = some (nodesB evs)[i]:=List.getElem?_eq_getElem hil
  obtain ⟨r,q1,q2,q3,_,q5⟩:=hs.at' i _ hxi
  obtain ⟨p1,p2,p3⟩:=q5 (hno i)
  obtain ⟨y,g1,g2⟩:=hr.at' i r q1
  have hrg:=hinv.rng i _ hxi
  refine ⟨y,by rw [readN_at];exact g1,?_,?_,g2.2.2.1,g2.2.2.2.1,?_⟩
  ·cases hb:y.op with
   | false=>rfl
   | true=>have:=(g2.2.2.2.2.2.2.1 hb).1;omega
  ·have a1:=g2.1
   rw [q2] at a1
   unfold nodeEv
   rw [hxi]
   simp [a1]
  ·have hla:=lastN_at h hxi
   rw [g2.2.2.2.2.1,p3]
   have e:(nodesB evs)[i].last.toNat = lastN evs i:=by omega
   rw [e]
   rfl
 have htest0:∀ s:PS,0 ≤ s.test ∧ s.test ≤ 3 → testT { y0 with op:=false } s = truthI (meetsP (treePT evs) (-1) s):=fun s ht=>by
  unfold testT meetsP
  simp only [k4]
  obtain e | e | e | e:s.test = 0 ∨ s.test = 1 ∨ s.test = 2 ∨ s.test = 3:=by omega
  ·simp [e]
  ·simp [e]
  ·simp [e]
  ·simp [e,truthI]
 refine ⟨lk,pars_of h,by rw [lk.len,hs.len],?_,?_,?_,?_⟩
 ·intro m hm
  cases m with
  | zero=>rw [opI_of hy0];rfl
  | succ i =>
   obtain ⟨y,g1,g2,_⟩:=hat i (by have:=lk.len;omega)
   rw [opI_of g1,g2];rfl
 ·intro k y hy s ht
  cases k with
  | zero =>
   rw [hy] at hy0
   rw [Option.some.inj hy0]
   exact htest0 s ht
  | succ i =>
   obtain ⟨y',g1,g2,g3,g4,g5,_⟩:=hat i (by have:=get_lt hy;have:=lk.len;omega)
   rw [hy] at g1
   obtain rfl:=Option.some.inj g1
   have e1:((i + 1:Nat):Int) - 1 = (i:Int):=by omega
   rw [e1]
   unfold testT meetsP
   have hnd:(treePT evs).node (Int.toNat (i:Int)) = y.ev:=by rw [g3];rfl
   rw [hnd]
   have hneg:¬ (i:Int) < 0:=by omega
   obtain e | e | e | e:s.test = 0 ∨ s.test = 1 ∨ s.test = 2 ∨ s.test = 3:=by omega
   ·rcases g5 with g5 | g5 <;> simp [e,hneg,g4,g5]
   ·rcases g5 with g5 | g5 <;> simp [e,hneg,g4,g5]
   ·rcases g5 with g5 | g5 <;> simp [e,hneg,g4,g5]
   ·simp [e,truthI]
 ·intro k y hy x
  have hval:y.op = false ∧ y.txt = (treePT evs).value ((k:Int) - 1):=by
   cases k with
   | zero =>
    rw [hy] at hy0
    have e:=Option.some.inj hy0
    refine ⟨by rw [e],?_⟩
    have e2:y.txt = y0.txt:=by rw [e]
    rw [e2,k2]
    have hh:(rnAll beg0 [] evs).head? = (rnAll beg0 [] evs)[0]?:=List.head?_eq_getElem?
    have hxi:(nodesB evs)[0]? = some (nodesB evs)[0]:=List.getElem?_eq_getElem hpos
    obtain ⟨r,q1,q2,q3,_,q5⟩:=hs.at' 0 _ hxi
    obtain ⟨p1,p2,p3⟩:=q5 (hno _)
    rw [hh,q1]
    have hla:=lastN_at h hxi
    have hlr:=last_root hw
    show r.val = txtR evs 0 (nodesB evs).length
    rw [p3,← hlr]
    have e:(nodesB evs)[0].last.toNat = lastN evs 0:=by omega
    rw [e]
    rfl
   | succ i =>
    obtain ⟨y',g1,g2,_,_,_,g6⟩:=hat i (by have:=get_lt hy;have:=lk.len;omega)
    rw [hy] at g1
    obtain rfl:=Option.some.inj g1
    refine ⟨g2,?_⟩
    have e1:((i + 1:Nat):Int) - 1 = (i:Int):=by omega
    rw [e1,g6]
    show txtR evs i (lastN evs i + 1) = txtR evs (Int.toNat (i:Int)) (hiOf (nodesB evs).length (lastN evs) (i:Int))
    unfold hiOf
    rw [if_neg (by omega)]
    rfl
  unfold asksT comparesP askedP
  rw [hval.1]
  by_cases ha:x.attr = []
  ·rw [if_neg (fun hh=>hh ha),if_pos ha,if_neg (by decide)]
   unfold cmpT
   rw [hval.2]
  ·rw [if_pos ha,if_neg ha]
   cases k with
   | zero =>
    rw [hy] at hy0
    have e:=Option.some.inj hy0
    have e2:y.ev.ats = []:=by rw [e];show y0.ev.ats = [];rw [k6];rfl
    rw [e2,if_pos (by omega)]
    rfl
   | succ i =>
    obtain ⟨y',g1,_,g3,_⟩:=hat i (by have:=get_lt hy;have:=lk.len;omega)
    rw [hy] at g1
    obtain rfl:=Option.some.inj g1
    have e1:((i + 1:Nat):Int) - 1 = (i:Int):=by omega
    have hnd:(treePT evs).node (Int.toNat (i:Int)) = y.ev:=by rw [g3];rfl
    rw [e1,if_neg (by omega),hnd]
    cases y.ev.ats.find? fun p=>p.1 == x.attr with
    | none=>rfl
    | some p=>rfl
 ·intro m k hm hk ax ha
  rw [← leads_iff lk ax ha m k hm,alongR_eq lk.ax,hlr,hs.len]
  show (∃ u ∈ alongM (nodesB evs).length (lastN evs) ((m:Int) - 1) ax,(u + 1).toNat = k) ↔ ((k:Int) - 1) ∈ alongM (nodesB evs).length (lastN evs) ((m:Int) - 1) ax
  constructor
  ·rintro ⟨u,hu,rfl⟩
   have hu2:=hu
   have hal:=alongR_eq lk.ax ((m:Int) - 1) ax
   rw [hlr,hs.len] at hal
   rw [← hal] at hu2
   have hrg:=along_rng (by have:=lk.ax.rng;rw [hlr,hs.len] at this;exact this) ((m:Int) - 1) ax (by omega) u hu2
   have e:(((u + 1).toNat:Nat):Int) - 1 = u:=by omega
   rw [e];exact hu
  ·intro hu
   exact ⟨_,hu,by omega⟩
end Go.Proofs.YtgjokdngbocehaaGreatDoor
namespace Go.Proofs.YtgjokdngbocehaaGreatDoor
open Go.RowKit
def refusesN (N f:Nat) (v:Int) (ss:List PS):Int:=if v < -1 ∨ (N:Int) ≤ v then 2 else checkN f ss
set_option maxRecDepth 100000 in
set_option maxHeartbeats 4000000 in
theorem refuses_any {f:Nat} (hf:f ≤ 1048576) {tb:Nat} {evs:List Ev} (v:Int) (a:Option Addr) (c:Nat) (ss:List PS) (w:World) (hq:TQ w tb evs) (hE:EnvT w) (h:SsAt f w a ss) (hn:ss.length ≤ 1048576) :
  Calls Tryz.prog 80 #[.pointer (some ⟨tb,0,none⟩),.int .i64 v,.agg #[.slice a ss.length c]] w fun e w'=>e = .returned (.int .i64 (refusesN (nodesB evs).length f v ss)) ∧ Below w.heap.size w w':=by
 have HB0:Hid (Below w.heap.size w (w.alloc (.cells #[.slice a ss.length c] 25))):=Lib.hid ((Below.refl _ _).alloc (Nat.le_refl _) _)
 have HCK:Hid (∀ W,Below w.heap.size w W → Calls Tryz.prog 12 #[.agg #[.slice a ss.length c]] W fun e w'=>e = .returned (.int .i64 (checkN f ss)) ∧ Below W.heap.size W w'):=Lib.hid fun W hW=>check_any hf a c ss W (hE.below hW) (SsAt.below h hW) hn
 have HLEN:Hid (∀ W,Below w.heap.size w W → Calls Tryz.prog 81 #[.pointer (some ⟨tb,0,none⟩)] W fun e w'=>e = .returned (.int .i64 ((nodesB evs).length:Nat)) ∧ w' = W):=Lib.hid fun W hW=>by
  obtain ⟨⟨B,ht⟩,hwh,_⟩:=hq.below hW
  exact len_any (treeLast ht hwh)
 obtain ⟨R,hR⟩:∃ R,refusesN (nodesB evs).length f v ss = R:=⟨_,rfl⟩
 rw [hR]
 have HR:=Lib.hid hR
 clear hR hq hE h
 unfold refusesN at HR
 generalize checkN f ss = ck at *
 generalize (nodesB evs).length = N at *
 generalize ss.length = n at *
 by_cases h1:v < -1
 ·have HF:Hid (2 = R):=Lib.hid (by rw [← HR.out,if_pos (.inl h1)])
  go_enter Tryz.func80,Tryz.ntmps80
  go_wp2_with fail
  go_ret
  exact ⟨ret_int HF.out,HB0.out⟩
 ·have h1':-1 ≤ v:=by omega
  clear h1
  have HLEN0:=Lib.hid (HLEN.out _ HB0.out)
  by_cases h2:(N:Int) ≤ v
  ·have HF:Hid (2 = R):=Lib.hid (by rw [← HR.out,if_pos (.inr h2)])
   go_enter Tryz.func80,Tryz.ntmps80
   go_wp2_with fail
   (with_reducible refine HLEN0.out.mono ?_)
   rintro e w2 ⟨rfl,rfl⟩
   go_wp2_with fail
   go_ret
   exact ⟨ret_int HF.out,HB0.out⟩
  ·have h2':v < (N:Int):=by omega
   clear h2
   have HF:Hid (ck = R):=Lib.hid (by rw [← HR.out,if_neg (by omega)])
   have HCK0:=Lib.hid (HCK.out _ HB0.out)
   go_enter Tryz.func80,Tryz.ntmps80
   go_wp2_with fail
   (with_reducible refine HLEN0.out.mono ?_)
   rintro e w2 ⟨rfl,rfl⟩
   go_wp2_with fail
   (with_reducible refine HCK0.out.mono ?_)
   rintro e w3 ⟨rfl,hb3⟩
   have HB3:=Lib.hid (HB0.out.trans (hb3.mono HB0.out.size))
   clear hb3
   go_wp2_with fail
   go_ret
   exact ⟨ret_int HF.out,HB3.out⟩
def trueTo (fr:List Bool) (j:Nat):List Int:=(List.range j).filterMap fun (k:Nat)=>if fr[k]?.getD false then some ((k:Int) - 1) else none
theorem trueTo_succ (fr:List Bool) (j:Nat):trueTo fr (j + 1) = trueTo fr j ++ (if fr[j]?.getD false then [(j:Int) - 1] else []):=by
 unfold trueTo
 rw [List.range_succ,List.filterMap_append]
 cases h:fr[j]?.getD false <;> simp [h]
theorem trueTo_len (fr:List Bool) (j:Nat):(trueTo fr j).length ≤ j:=by
 unfold trueTo
 have:=List.length_filterMap_le (fun (k:Nat)=>if fr[k]?.getD false then some ((k:Int) - 1) else none) (List.range j)
 rwa [List.length_range] at this
def fromN (T:PT) (f:Nat) (v:Int) (ss:List PS):List Int:=if refusesN T.N f v ss = 0 then fromP T f v ss else []
theorem checkN_good {f:Nat} {ss:List PS} (h:checkN f ss = 0):goodPB (goodXB f) ss = true:=by
 unfold checkN checkB at h
 cases hg:goodPB (goodXB f) ss with
 | true=>rfl
 | false=>rw [hg] at h;simp at h
theorem goodPB_wher {f:Nat} {ss:List PS} (hgp:goodPB (goodXB f) ss = true):∀ s ∈ ss,s.wher.all (goodXB f) = true:=fun s hs=>by
 obtain ⟨i,hi,rfl⟩:=List.getElem_of_mem hs
 have:=goodPB_at hgp i hi
 unfold goodSB at this
 rw [Bool.and_eq_true] at this
 exact this.2
set_option maxRecDepth 100000 in
set_option maxHeartbeats 8000000 in
theorem from_any {f:Nat} (hf:f ≤ 1048576) {tb:Nat} {evs:List Ev} (HST:StepX tb evs f) (v:Int) (a:Option Addr) (c:Nat) (ss:List PS) (w:World) (hq:TQ w tb evs) (hE:EnvT w) (h:SsAt f w a ss) (hml:ss.length ≤ 1048576) :
  Calls Tryz.prog 45 #[.pointer (some ⟨tb,0,none⟩),.int .i64 v,.agg #[.slice a ss.length c]] w fun e w'=>∃ A cc,e = .returned (.tuple #[.slice A (fromN (treePT evs) f v ss).length cc,.int .i64 (refusesN (nodesB evs).length f v ss)]) ∧ (fromN (treePT evs) f v ss).length ≤ cc ∧ IntsAt w' A (fromN (treePT evs) f v ss).length (fromN (treePT evs) f v ss) ∧ Below w.heap.size w w':=by
 obtain ⟨i0,hi0,hz0,hz1,hz2⟩:=info_parts infoBool
 obtain ⟨j0,hj,hjz0,hjz1,hjz2⟩:=info_parts infoInt
 obtain ⟨W0,hW0⟩:∃ W0,W0 = w.alloc (.cells #[.slice a ss.length c] 25):=⟨_,rfl⟩
 have hb0:Below w.heap.size w W0:=by rw [hW0];exact (Below.refl _ _).alloc (Nat.le_refl _) _
 have hsz0:W0.heap.size = w.heap.size + 1:=by rw [hW0];simp
 have hk5:W0.heap[w.heap.size]? = some (.cells #[.slice a ss.length c] 25 (0,0)):=by rw [hW0];exact heap_alloc_new w _
 have HKS:Hid (∀ W,Below (w.heap.size + 1) W0 W → W.cell? ⟨w.heap.size,0,none⟩ = some (.slice a ss.length c)):=Lib.hid fun W hW=>by
  rw [cell_heap ((hW.block w.heap.size (by omega)).trans hk5)];rfl
 have HW0:Hid (Below w.heap.size w W0 ∧ W0.heap.size = w.heap.size + 1):=Lib.hid ⟨hb0,hsz0⟩
 have HRF:=Lib.hid (refuses_any hf v a c ss W0 (hq.below hb0) (hE.below hb0) (SsAt.below h hb0) hml)
 by_cases hr:refusesN (nodesB evs).length f v ss = 0
 rotate_left
 ·have e0:fromN (treePT evs) f v ss = []:=if_neg hr
  rw [e0]
  have hr':(refusesN (nodesB evs).length f v ss != 0) = true:=by simp [hr]
  have hr'':(refusesN (nodesB evs).length f v ss == 0) = false:=by simp [hr]
  generalize refusesN (nodesB evs).length f v ss = rf at *
  clear hb0 hsz0 hk5 hq hE h hr e0
  have HW0E:=Lib.hid hW0
  clear hW0
  generalize ss.length = m at *
  go_enter Tryz.func45,Tryz.ntmps45
  go_wp2_with fail
  rw [← HW0E.out]
  have c5:=HKS.out W0 (Below.refl _ _)
  (with_reducible refine HRF.out.mono ?_)
  rintro e w2 ⟨rfl,hb2⟩
  have HB2:=Lib.hid (HW0.out.1.trans (hb2.mono HW0.out.1.size))
  clear hb2
  go_wp2_with fail
  go_ret2
  exact ⟨none,0,rfl,Nat.le_refl _,⟨rfl,fun i hi=>absurd hi (Nat.not_lt_zero _)⟩,HB2.out⟩
 ·have hfn:fromN (treePT evs) f v ss = fromP (treePT evs) f v ss:=if_pos hr
  rw [hfn,hr]
  rw [hr] at HRF
  have hvv:-1 ≤ v ∧ v < ((nodesB evs).length:Int):=by
   unfold refusesN at hr
   split at hr
   ·cases hr
   ·omega
  have hck:checkN f ss = 0:=by
   unfold refusesN at hr
   rw [if_neg (by omega)] at hr
   exact hr
  have hgd:=goodPB_wher (checkN_good hck)
  have HLEN:Hid (∀ W,Below w.heap.size w W → Calls Tryz.prog 81 #[.pointer (some ⟨tb,0,none⟩)] W fun e w'=>e = .returned (.int .i64 ((nodesB evs).length:Nat)) ∧ w' = W):=Lib.hid fun W hW=>by
   obtain ⟨⟨B,ht⟩,hwh,_⟩:=hq.below hW
   exact len_any (treeLast ht hwh)
  have HSX:Hid (∀ (g n:Nat) (W:World),Below w.heap.size w W → n = (nodesB evs).length + 1 → RowB W g (oneP (nodesB evs).length v) → Calls Tryz.prog 82 #[.agg #[.pointer (some ⟨tb,0,none⟩)],.slice (some ⟨g,0,none⟩) n n,.slice a ss.length c] W fun e w'=>∃ g',e = .returned (.slice (some ⟨g',0,none⟩) n n) ∧ RowB w' g' (stepsP (holdP (treePT evs) f) (treePT evs) (oneP (nodesB evs).length v) ss) ∧ Below W.heap.size W w'):=Lib.hid fun g n W hW hn hr =>
   HST g n c a _ ss W (hq.below hW) hn (by rw [oneP_len];exact hn.symm) hr (SsAt.below h hW) hml hgd
  have HONE:=Lib.hid (oneP_set (nodesB evs).length v hvv.1)
  have hN:(nodesB evs).length ≤ 1024:=hq.len
  have HFL:Hid ((stepsP (holdP (treePT evs) f) (treePT evs) (oneP (nodesB evs).length v) ss).length = (nodesB evs).length + 1):=Lib.hid (by rw [stepsP_len,oneP_len])
  have HFP:Hid (fromP (treePT evs) f v ss = trueTo (stepsP (holdP (treePT evs) f) (treePT evs) (oneP (nodesB evs).length v) ss) ((nodesB evs).length + 1)):=Lib.hid (by rw [← HFL.out];rfl)
  generalize stepsP (holdP (treePT evs) f) (treePT evs) (oneP (nodesB evs).length v) ss = fr at *
  obtain ⟨R,hR⟩:∃ R,fromP (treePT evs) f v ss = R:=⟨_,rfl⟩
  rw [hR]
  rw [hR] at HFP
  clear hR hfn hck hgd hr
  generalize hNN:(nodesB evs).length = N at *
  obtain ⟨n,hn⟩:∃ n,n = N + 1:=⟨_,rfl⟩
  rw [← hn] at HFP
  have HNE:=Lib.hid hn
  have ewN:IntKind.i64.wrap ((N:Int) + 1) = ((n:Nat):Int):=by rw [IntWalk.i64_in _ (by omega)];omega
  have ewv:IntKind.i64.wrap (v + 1) = v + 1:=IntWalk.i64_in _ (by omega)
  have hn2:n ≤ 1025:=by omega
  have v1:(0:Int) ≤ v + 1:=by omega
  have v2:v + 1 < (n:Int):=by omega
  have HV:=Lib.hid (show (v + 1).toNat < n by omega)
  have HFN:Hid (fr.length = n):=Lib.hid (by rw [HFL.out,HNE.out])
  clear hb0 hsz0 hk5 hq hE h hn hvv hNN
  have HW0E:=Lib.hid hW0
  clear hW0
  generalize ss.length = m at *
  go_enter Tryz.func45,Tryz.ntmps45
  go_wp2_with fail
  rw [← HW0E.out]
  have c5:=HKS.out W0 (Below.refl _ _)
  (with_reducible refine HRF.out.mono ?_)
  rintro e w1 ⟨rfl,hb1⟩
  have HLN:=Lib.hid (HLEN.out w1 (HW0.out.1.trans (hb1.mono HW0.out.1.size)))
  have HB1:=Lib.hid hb1
  clear hb1
  go_wp2_with fail
  (with_reducible refine HLN.out.mono ?_)
  rintro e w2 ⟨rfl,rfl⟩
  have HSZ2:Hid (w.heap.size + 1 ≤ w2.heap.size ∧ Below w.heap.size w w2 ∧ Below (w.heap.size + 1) W0 w2):=Lib.hid ⟨by have:=HB1.out.size;have:=HW0.out.2;omega,HW0.out.1.trans (HB1.out.mono HW0.out.1.size),HB1.out.mono (by rw [HW0.out.2];exact Nat.le_refl _)⟩
  have HK4:Hid (∀ w3,Below w2.heap.size w2 w3 → Below (w.heap.size + 1) W0 (w3.setCell ⟨w2.heap.size,(v + 1).toNat,none⟩ (.bool true)) ∧ Below w.heap.size w (w3.setCell ⟨w2.heap.size,(v + 1).toNat,none⟩ (.bool true))):=Lib.hid fun w3 hb3 =>
   ⟨(HSZ2.out.2.2.trans (hb3.mono HSZ2.out.1)).setCell (p:=⟨w2.heap.size,(v + 1).toNat,none⟩) HSZ2.out.1 _,(HSZ2.out.2.1.trans (hb3.mono (by have:=HSZ2.out.1;omega))).setCell (p:=⟨w2.heap.size,(v + 1).toNat,none⟩) (by have:=HSZ2.out.1;show _ ≤ w2.heap.size;omega) _⟩
  go_wp2_with (at_make;go_must ((refine wpList_make_full _ (by rfl) _ _ 150 (by rfl) w.heap.size 4 i0 _ 1 Tryz.underlying150 hi0 hz0 hz1 .i64 .i64 (n:Int) (n:Int) n (by rfl) (by rfl) rfl rfl (by rw [hz2];omega) (by unfold maxLen;omega) (by have:=HSZ2.out.1;omega) (fun w3 hown hgr=>?_));(obtain ⟨HRB,hgc,hgf⟩:=made_row hown hgr (v + 1).toNat HV.out);(have c5':=HKS.out _ (HK4.out _ HRB.out.2).1);(clear hown hgr)))
  have hr4:=HRB.out.1.set (v + 1).toNat true
  have HB4:=Lib.hid (HK4.out _ HRB.out.2)
  rw [← HNE.out] at HONE
  rw [← HONE.out] at hr4
  have HSXX:=Lib.hid (HSX.out w2.heap.size n _ HB4.out.2 HNE.out hr4)
  clear HRB hr4 c5
  go_wp2_with fail
  (with_reducible refine HSXX.out.mono ?_)
  rintro e w5 ⟨g',rfl,hr5,hb5⟩
  have HR5:Hid (Below w.heap.size w w5 ∧ RowB w5 g' fr):=Lib.hid ⟨HB4.out.2.trans (hb5.mono HB4.out.2.size),hr5⟩
  clear hr5 hb5 c5' hgc hgf
  go_wp2_with fail
  go_loopw [10,35] (fun ov jv wr=>∃ j:Nat,jv = .int .i64 j ∧ j ≤ n ∧ Hid (Below w5.heap.size w5 wr ∧ wr.ownsRow w5.heap.size 3 1 ov (trueTo fr j).length ((trueTo fr j).map (Value.int .i64)))) (fun _ jv _=>n - (intOf jv).toNat)
  case atStart=>exact ⟨0,rfl,Nat.zero_le _,Lib.hid ⟨Below.refl _ _,World.ownsRow_nil _ _ _ _⟩⟩
  case round =>
   obtain ⟨j,rfl,hjn,HJ⟩:=hrel
   obtain ⟨oa,oc,rfl,_,_,_⟩:=own_slice HJ.out.2
   obtain ⟨on,hon⟩:∃ on,(trueTo fr j).length = on:=⟨_,rfl⟩
   have honl:on ≤ 1025:=by have:=trueTo_len fr j;omega
   rw [hon] at HJ ⊢
   have HON:=Lib.hid hon
   clear hon
   by_cases hj2:j < n
   ·have hjf:j < fr.length:=by rw [HFN.out];exact hj2
    have hc:=(HR5.out.2.below HR5.out.2.lt HJ.out.1).cell (List.getElem?_eq_getElem hjf)
    have HSU:Hid (trueTo fr (j + 1) = trueTo fr j ++ (if fr[j] then [(j:Int) - 1] else [])):=Lib.hid (by rw [trueTo_succ,List.getElem?_eq_getElem hjf];rfl)
    have i3:(0:Int) ≤ (j:Int):=by omega
    have i4:(j:Int) < (n:Int):=by omega
    have ewj:IntKind.i64.wrap ((j:Int) + 1) = (j:Int) + 1:=IntWalk.i64_in _ (by omega)
    have ewk:IntKind.i64.wrap ((j:Int) - 1) = (j:Int) - 1:=IntWalk.i64_in _ (by omega)
    generalize fr[j] = fb at *
    cases fb with
    | false =>
     have HN8:Hid (Below w5.heap.size w5 wr ∧ wr.ownsRow w5.heap.size 3 1 (.slice oa on oc) (trueTo fr (j + 1)).length ((trueTo fr (j + 1)).map (Value.int .i64))):=Lib.hid (by
      rw [HSU.out]
      simp only [Bool.false_eq_true,if_false,List.append_nil,HON.out]
      exact HJ.out)
     clear HSU
     go_wp2_with fail
     go_roundw
     case rel=>exact ⟨j + 1,by go_num,by omega,HN8⟩
     case measure=>simp [intOf];omega
    | true =>
     go_wp2_with (at_builtin;go_must ((refine wpList_app wr (by rfl) _ _ 66 (by rfl) w5.heap.size 3 j0 (.int .i64 0) 1 8 Tryz.underlying66 hj hjz0 hjz1 hjz2 (by rfl) (by decide) (.slice oa on oc) on _ (by rfl) HJ.out.2 _ rfl 1 [.int .i64 ((j:Int) - 1)] (by rfl) (by rfl) (by intro u hu;simp only [List.mem_cons,List.not_mem_nil,or_false] at hu;subst hu;rfl) (by omega) (by decide) HJ.out.1.size (fun v7 w7 hown7 hap7=>?_))))
     have hb7:Below w5.heap.size w5 w7:=(HJ.out.1.alloc HJ.out.1.size _).trans (hap7.below (by have:=HJ.out.1.size;simp;omega) (fun j hj'=>(HJ.out.2.lt j hj').1))
     have hown8:w7.ownsRow w5.heap.size 3 1 v7 (trueTo fr (j + 1)).length ((trueTo fr (j + 1)).map (Value.int .i64)):=by
      rw [HSU.out,if_pos rfl,List.length_append,HON.out,List.map_append]
      exact hown7
     have HN8:=Lib.hid (⟨hb7,hown8⟩:_ ∧ _)
     clear hb7 hown8 hown7 hap7 HSU
     go_wp2_with fail
     go_roundw
     case rel=>exact ⟨j + 1,by go_num,by omega,HN8⟩
     case measure=>simp [intOf];omega
   ·have hk2:j = n:=by omega
    subst hk2
    have m1:(j:Int) ≤ (j:Int):=by omega
    go_wp2_with fail
    go_ret2
    have ho:=HJ.out.2
    have hn:=HON.out
    rw [← HFP.out] at ho hn
    obtain ⟨a',c',e',hc',h2⟩:=own_ints ho
    cases e'
    rw [hn]
    exact ⟨_,_,rfl,hc',h2,HR5.out.1.trans (HJ.out.1.mono HR5.out.1.size)⟩
end Go.Proofs.YtgjokdngbocehaaGreatDoor
namespace Go.Proofs.YtgjokdngbocehaaGreatDoor
open Go.RowKit
def dropTop (l:List Int):List Int:=match l with | []=>[] | x :: r=>if x = -1 then r else x :: r
def selectN (T:PT) (f:Nat) (ss:List PS):List Int:=dropTop (fromN T f (-1) ss)
set_option maxRecDepth 100000 in
set_option maxHeartbeats 4000000 in
theorem select_any {f:Nat} (hf:f ≤ 1048576) {tb:Nat} {evs:List Ev} (HST:StepX tb evs f) (a:Option Addr) (c:Nat) (ss:List PS) (w:World) (hq:TQ w tb evs) (hE:EnvT w) (h:SsAt f w a ss) (hml:ss.length ≤ 1048576) :
  Calls Tryz.prog 25 #[.pointer (some ⟨tb,0,none⟩),.agg #[.slice a ss.length c]] w fun e w'=>∃ A cc,e = .returned (.tuple #[.slice A (selectN (treePT evs) f ss).length cc,.int .i64 (refusesN (nodesB evs).length f (-1) ss)]) ∧ IntsAt w' A (selectN (treePT evs) f ss).length (selectN (treePT evs) f ss) ∧ Below w.heap.size w w':=by
 have hb0:Below w.heap.size w (w.alloc (.cells #[.slice a ss.length c] 25)):=(Below.refl _ _).alloc (Nat.le_refl _) _
 have HB0:=Lib.hid hb0
 have HF:=Lib.hid (from_any hf HST (-1) a c ss _ (hq.below hb0) (hE.below hb0) (SsAt.below h hb0) hml)
 have hlen:(fromN (treePT evs) f (-1) ss).length ≤ 1025:=by
  unfold fromN
  split
  ·refine Nat.le_trans (trueTo_len _ _) ?_
   rw [stepsP_len,oneP_len]
   have:=hq.len
   show (nodesB evs).length + 1 ≤ 1025
   omega
  ·simp
 clear hb0 hq hE h
 unfold selectN
 generalize fromN (treePT evs) f (-1) ss = l at *
 generalize refusesN (nodesB evs).length f (-1) ss = rf at *
 generalize ss.length = m at *
 go_enter Tryz.func25,Tryz.ntmps25
 go_wp2_with fail
 (with_reducible refine HF.out.mono ?_)
 rintro e w2 ⟨A,cc,rfl,hcc,hi,hb2⟩
 have HB2:=Lib.hid (HB0.out.trans (hb2.mono HB0.out.size))
 clear hb2
 cases l with
 | nil =>
  rw [show ([]:List Int).length = 0 from rfl] at *
  have HI:=Lib.hid hi
  clear hi
  go_wp2_with fail
  go_ret2
  exact ⟨A,cc,rfl,HI.out,HB2.out⟩
 | cons x r =>
  obtain ⟨b,o,rfl,hb,hc⟩:=hi.at' 0 (Nat.zero_lt_succ _)
  rw [List.getElem_cons_zero,Nat.add_zero] at hc
  have HI:=Lib.hid hi
  obtain ⟨n,hn⟩:∃ n,(x :: r).length = n:=⟨_,rfl⟩
  rw [hn] at hcc hlen HI ⊢
  have hn1:1 ≤ n:=by rw [← hn];simp
  have hrn:r.length = n - 1:=by rw [← hn];simp
  have HRN:=Lib.hid hrn
  have HN:=Lib.hid hn
  clear hi hb hn hrn
  have n1:(0:Int) < (n:Int):=by omega
  by_cases hx:x = -1
  ·have hxb:(x == -1) = true:=by simp [hx]
   have HD:Hid (dropTop (x :: r) = r):=Lib.hid (if_pos hx)
   have n2:(1:Int) ≤ (n:Int):=by omega
   have hsn:((n:Int) - 1).toNat = n - 1:=by omega
   have HIR:Hid (∀ o',(n - 1 = 0 ∨ o' = o + 1) → IntsAt w2 (some ⟨b,o',none⟩) (n - 1) r):=Lib.hid fun o' ho=>⟨HRN.out.symm,fun i hi=>by
    rcases ho with h0 | rfl
    ·have:=HRN.out;omega
    ·obtain ⟨b',o',e',h1,h2⟩:=HI.out.at' (i + 1) (by simpa using hi)
     cases e'
     exact ⟨b,o + 1,rfl,h1,by rw [Nat.add_assoc,Nat.add_comm 1 i];exact h2⟩⟩
   clear hx
   by_cases hc1:cc = 1
   ·subst hc1
    have hn0:n = 1:=by omega
    subst hn0
    go_wp2_with fail
    go_ret2
    rw [HD.out,HRN.out]
    exact ⟨_,_,rfl,HIR.out _ (.inl (by trivial)),HB2.out⟩
   ·have hc2:1 < cc:=by omega
    go_wp2_with fail
    go_ret2
    rw [HD.out,HRN.out]
    exact ⟨_,_,rfl,HIR.out _ (.inr rfl),HB2.out⟩
  ·have hxb:(x == -1) = false:=by simpa using hx
   have HD:Hid (dropTop (x :: r) = x :: r):=Lib.hid (if_neg hx)
   clear hx
   go_wp2_with fail
   go_ret2
   rw [HD.out,HN.out]
   exact ⟨_,_,rfl,HI.out,HB2.out⟩
end Go.Proofs.YtgjokdngbocehaaGreatDoor
namespace Go.Proofs.YtgjokdngbocehaaGreatDoor
open Go.RowKit
theorem fm_congr {α β:Type} {f g:α → Option β}:∀ l:List α,(∀ x ∈ l,f x = g x) → l.filterMap f = l.filterMap g
 | [],_=>rfl
 | x :: l,h=>by
  rw [List.filterMap_cons,List.filterMap_cons,h x List.mem_cons_self,fm_congr l fun y hy=>h y (List.mem_cons_of_mem _ hy)]
theorem goodS_all {f:Nat} {ss:List PS} (h:checkN f ss = 0):∀ s ∈ ss,goodSB (goodXB f) s = true:=by
 have hg:=checkN_goodP h
 unfold goodPB at hg
 rw [Bool.and_eq_true] at hg
 exact List.all_eq_true.1 hg.2
theorem verd_whole {evs:List Ev} {hs:List HN} {rs:List RN} (h:Full evs hs rs) {f:Nat} {ss:List PS} (hc:checkN f ss = 0) (hpos:0 < (nodesB evs).length):vdT (pathT (exprT hs f) hs ss ss.length) hs.length = (selectN (treePT evs) f ss).map fun n=>(n,(2:Int)):=by
 have hlen:=h.len
 have hNT:(treePT evs).N = (nodesB evs).length:=rfl
 have hp:=h.path f ss (goodS_all hc) ss.length (Nat.le_refl _)
 rw [List.take_length] at hp
 have hfl:(stepsP (holdP (treePT evs) f) (treePT evs) (oneP (treePT evs).N (-1)) ss).length = hs.length:=by rw [stepsP_len,oneP_len];omega
 have hr:refusesN (treePT evs).N f (-1) ss = 0:=by unfold refusesN;rw [if_neg (by omega)];exact hc
 unfold selectN fromN
 rw [if_pos hr]
 unfold fromP trueIdx
 rw [hfl]
 generalize stepsP (holdP (treePT evs) f) (treePT evs) (oneP (treePT evs).N (-1)) ss = fr at *
 generalize pathT (exprT hs f) hs ss ss.length = led at *
 obtain ⟨m,hm⟩:∃ m,hs.length = m + 1:=⟨hs.length - 1,by omega⟩
 rw [hm] at hp ⊢
 have e1:vdT led (m + 1) = ((List.range' 1 m).filterMap fun (k:Nat)=>if fr[k]?.getD false then some ((k:Int) - 1) else none).map fun n=>(n,(2:Int)):=by
  unfold vdT
  rw [List.range_eq_range',List.range'_succ,List.filterMap_cons]
  rw [if_neg (by omega),List.map_filterMap]
  show List.filterMap _ (List.range' (0 + 1) m) = _
  refine fm_congr _ fun k hk=>?_
  obtain ⟨k1,k2⟩:=List.mem_range'_1.1 hk
  have hpk:=hp k (by omega)
  cases hb:fr[k]?.getD false with
  | false =>
   simp only [hb] at hpk
   rw [if_neg (fun hh=>hh.2 hpk)]
   simp
  | true =>
   simp only [hb] at hpk
   rw [if_pos ⟨by omega,by rw [hpk];decide⟩,hpk]
   rfl
 have e2:dropTop ((List.range (m + 1)).filterMap fun (k:Nat)=>if fr[k]?.getD false then some ((k:Int) - 1) else none) = (List.range' 1 m).filterMap fun (k:Nat)=>if fr[k]?.getD false then some ((k:Int) - 1) else none:=by
  rw [List.range_eq_range',List.range'_succ,List.filterMap_cons]
  have hd:∀ l:List Int,(∀ x ∈ l,x ≠ -1) → dropTop l = l:=fun l hl=>by
   cases l with
   | nil=>rfl
   | cons x l=>unfold dropTop;exact if_neg (hl x List.mem_cons_self)
  cases hb:fr[0]?.getD false with
  | true=>rfl
  | false =>
   refine hd _ fun x hx=>?_
   obtain ⟨k,hk,he⟩:=List.mem_filterMap.1 hx
   obtain ⟨k1,k2⟩:=List.mem_range'_1.1 hk
   split at he
   ·have:=Option.some.inj he;omega
   ·cases he
 rw [e1,e2]
theorem told_whole {evs:List Ev} {hs:List HN} {rs:List RN} (h:Full evs hs rs) (l:List Int) (hl:∀ n ∈ l,0 ≤ n ∧ n + 1 < (hs.length:Int)):toldL evs hs (l.map fun n=>(n,(2:Int))) = l.map fun n=>itemV evs hs (n,2):=by
 unfold toldL
 rw [takeWhile_all,List.map_map]
 ·rfl
 ·intro v hv
  obtain ⟨n,hn,rfl⟩:=List.mem_map.1 hv
  have hb:=hl n hn
  have hlt:(n + 1).toNat < hs.length:=by omega
  have hsh:=h.shut _ hlt
  unfold opI at hsh
  unfold okV
  rw [decide_eq_true rfl]
  simp only [Bool.true_and]
  cases ho:(hs[(n + 1).toNat]?.map fun (h:HN)=>h.op).getD false with
  | false=>rfl
  | true=>rw [if_pos ho] at hsh;cases hsh
theorem item_whole {evs:List Ev} {st:BegS} (h:begAll beg0 evs = some st) (ho:st.opn = []) (i:Nat) (x:Nd) (hx:(nodesB evs)[i]? = some x):itemV evs (readN evs st) ((i:Int),2) = ((i:Int),((evs.take x.fin).drop x.pos).flatMap evOut):=by
 have hr:=beg_rel h
 have hs:=rnAll_spec h
 have hno:¬ isOpn st i:=fun ⟨o,ho1,_⟩=>by rw [ho] at ho1;cases ho1
 obtain ⟨r,q1,q2,_,_,q5⟩:=hs.at' i x hx
 obtain ⟨_,p2,_⟩:=q5 hno
 obtain ⟨y,g1,g2⟩:=hr.at' i r q1
 have hrg:=(nodesB_inv h).rng i x hx
 have hop:y.op = false:=by
  cases hb:y.op with
  | false=>rfl
  | true=>have:=(g2.2.2.2.2.2.2.1 hb).1;omega
 have hen:=(g2.2.2.2.2.2.2.2.1 hop).2
 have hbg:=g2.2.2.2.2.2.1
 have hy:(readN evs st)[((i:Int) + 1).toNat]? = some y:=by
  have e:((i:Int) + 1).toNat = i + 1:=by omega
  rw [e,readN_at];exact g1
 unfold itemV
 simp only
 rw [hy]
 simp only [Option.map_some,Option.getD_some]
 rw [hbg,q2]
 have e:y.en = x.fin:=by omega
 rw [e]
end Go.Proofs.YtgjokdngbocehaaGreatDoor
