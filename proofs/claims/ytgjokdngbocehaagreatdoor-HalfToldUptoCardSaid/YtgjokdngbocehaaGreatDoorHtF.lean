/-
  The plain law of names: what chars.Name and the document's own say.
-/
import Derived.Test.YtgjokdngbocehaaGreatDoorHtA
import Derived.Test.YtgjokdngbocehaaGreatDoorHtD
import Derived.Test.YtgjokdngbocehaaGreatDoorHtE
namespace Go.Proofs.YtgjokdngbocehaaGreatDoor
open Go.RowKit
def clsF:Nat → Nat → List UInt8 → Bool
 | 0,_,_=>true
 | f + 1,c,l=>if l = [] then true else isR (rng c) (decL l).1 && clsF f 3 (l.drop (decL l).2)
theorem clsF_fuel (f:Nat):∀ (g c:Nat) (l:List UInt8),l.length ≤ f → l.length ≤ g → clsF f c l = clsF g c l:=by
 induction f with
 | zero =>
  intro g c l hf _
  obtain rfl:l = []:=List.eq_nil_of_length_eq_zero (by omega)
  cases g <;> rfl
 | succ f ih =>
  intro g c l hf hg
  by_cases h:l = []
  ·subst h;cases g <;> rfl
  ·have hl:=List.length_pos_iff.2 h
   obtain ⟨g,rfl⟩:∃ k,g = k + 1:=⟨g - 1,by omega⟩
   have:=dec_pos l h
   simp only [clsF]
   rw [if_neg h,if_neg h,ih g 3 _ (by rw [List.length_drop];omega) (by rw [List.length_drop];omega)]
def clsL (c:Nat) (l:List UInt8):Bool:=clsF l.length c l
theorem clsL_nil (c:Nat):clsL c [] = true:=rfl
theorem clsL_step (c:Nat) (l:List UInt8) (h:l ≠ []):clsL c l = (isR (rng c) (decL l).1 && clsL 3 (l.drop (decL l).2)):=by
 have hl:=List.length_pos_iff.2 h
 have:=dec_pos l h
 unfold clsL
 obtain ⟨f,hf⟩:∃ f,l.length = f + 1:=⟨l.length - 1,by omega⟩
 rw [hf]
 simp only [clsF]
 rw [if_neg h,clsF_fuel f (l.drop (decL l).2).length 3 _ (by rw [List.length_drop];omega) (Nat.le_refl _)]
def nameB (l:List UInt8):Bool:=!l.isEmpty && (clsL 2 l && Lib.validD l)
def allC:Nat → Nat → List UInt8 → Bool
 | 0,_,_=>true
 | f + 1,c,l=>if l = [] then true else if (readR l 4 1).2 = 0 ∨ isR (rng c) (readR l 4 1).1 = false then false else allC f 3 (l.drop (readR l 4 1).2)
theorem allC_succ (f c:Nat) (l:List UInt8):allC (f + 1) c l = if l = [] then true else if (readR l 4 1).2 = 0 ∨ isR (rng c) (readR l 4 1).1 = false then false else allC f 3 (l.drop (readR l 4 1).2):=rfl
theorem allC_nil (f c:Nat):allC f c [] = true:=by cases f <;> rfl
theorem allC_eq (f:Nat):∀ (c:Nat) (l:List UInt8),l.length ≤ f → allC f c l = (clsL c l && Lib.validD l):=by
 induction f with
 | zero =>
  intro c l h
  obtain rfl:l = []:=List.eq_nil_of_length_eq_zero (by omega)
  rfl
 | succ f ih =>
  intro c l h
  rw [allC_succ]
  by_cases h0:l = []
  ·subst h0;rfl
  ·rw [if_neg h0]
   by_cases hg:(decL l).1 = 65533 ∧ (decL l).2 = 1
   ·rw [readR_bad l hg,Lib.validD_step l h0,decodeL_dec,if_pos hg]
    simp
   ·have hp:=dec_pos l h0
    have h4:(decL l).2 ≤ 4:=by
     rcases dec_inv l h0 with ⟨_,_,hi⟩ | hi
     ·rw [hi];exact (encN_ne _).2
     ·rw [hi];decide
    have hl:=List.length_pos_iff.2 h0
    rw [readR_good l h0 hg 4 1 hp (by omega),clsL_step c l h0,Lib.validD_step l h0,decodeL_dec,if_neg hg,ih 3 _ (by rw [List.length_drop];omega)]
    cases hi:isR (rng c) (decL l).1 with
    | false=>simp
    | true=>rw [if_neg (by simp;omega)];simp
theorem allC_fuel (f g c:Nat) (l:List UInt8) (hf:l.length ≤ f) (hg:l.length ≤ g):allC f c l = allC g c l:=by rw [allC_eq f c l hf,allC_eq g c l hg]
theorem nameB_ref (l:List UInt8):nameB l = (!l.isEmpty && allC l.length 2 l):=by
 unfold nameB;rw [allC_eq _ 2 l (Nat.le_refl _)]
end Go.Proofs.YtgjokdngbocehaaGreatDoor
namespace Go.Proofs.YtgjokdngbocehaaGreatDoor
def goodTB (l:List UInt8):Bool:=Lib.validD l && !(decide (0 ≤ Lib.indexByte l 39) && decide (0 ≤ Lib.indexByte l 34))
def goodCB (c:Int) (t:List UInt8) (n:Int):Bool :=
 if c = 0 then t.isEmpty && n == 0
 else if 1 ≤ c ∧ c ≤ 5 then goodTB t && n == 0
 else if 6 ≤ c ∧ c ≤ 8 then t.isEmpty && decide (0 ≤ n) && decide (n ≤ 1000000)
 else false
def goodSB (g:PX → Bool) (s:PS):Bool :=
 (decide (0 ≤ s.axis) && decide (s.axis ≤ 3) && decide (0 ≤ s.test) && decide (s.test ≤ 3)) && (if s.test = 0 then nameB s.name else s.name.isEmpty) && s.wher.all g
def goodPB (g:PX → Bool) (ss:List PS):Bool:=!ss.isEmpty && ss.all (goodSB g)
def bareB (x:PX):Bool:=x.path.isEmpty && x.attr.isEmpty && x.cmp == 0 && x.text.isEmpty && x.num == 0
def goodXB:Nat → PX → Bool
 | 0,_=>false
 | f + 1,x =>
  if x.op = 3 then x.args.isEmpty && goodPB (goodXB f) x.path && (x.attr.isEmpty || nameB x.attr) && goodCB x.cmp x.text x.num
  else bareB x && (if x.op = 0 ∨ x.op = 1 then decide (2 ≤ x.args.length) else if x.op = 2 then decide (x.args.length = 1) else false) && x.args.all (goodXB f)
def brackB (whole part:Int):Bool:=(part == 1 && whole != 2) || (whole == 0 && part == 0)
def maxN (l:List Nat):Nat:=l.foldl max 0
theorem maxN_snoc (l:List Nat) (x:Nat):maxN (l ++ [x]) = max (maxN l) x:=by unfold maxN;rw [List.foldl_append];rfl
theorem maxN_le {l:List Nat} {B:Nat} (h:∀ x ∈ l,x ≤ B):maxN l ≤ B:=by
 unfold maxN
 have:∀ (l:List Nat) (a:Nat),a ≤ B → (∀ x ∈ l,x ≤ B) → l.foldl max a ≤ B:=by
  intro l
  induction l with
  | nil=>intro a ha _;exact ha
  | cons x l ih=>intro a ha hl;exact ih _ (Nat.max_le.2 ⟨ha,hl x List.mem_cons_self⟩) fun y hy=>hl y (List.mem_cons_of_mem _ hy)
 exact this l 0 (Nat.zero_le _) h
def deepPN (d:PX → Nat) (ss:List PS):Nat:=maxN (ss.map fun s=>maxN (s.wher.map fun x=>d x + 1))
def deepXN:Nat → PX → Nat
 | 0,_=>0
 | f + 1,x =>
  if x.op = 3 then deepPN (deepXN f) x.path + (if 3 ≤ x.cmp then 1 else 0)
  else if x.op = 2 then (match x.args with | []=>0 | y :: _=>deepXN f y + 1)
  else maxN (x.args.map fun y=>deepXN f y + (if brackB x.op y.op then 1 else 0))
theorem deepXN_le:∀ (f:Nat) (x:PX),deepXN f x ≤ 2 * f
 | 0,_=>Nat.zero_le _
 | f + 1,x=>by
  unfold deepXN
  split
  ·have:deepPN (deepXN f) x.path ≤ 2 * f + 1:=by
    refine maxN_le fun n hn=>?_
    obtain ⟨s,_,rfl⟩:=List.mem_map.1 hn
    refine maxN_le fun m hm=>?_
    obtain ⟨y,_,rfl⟩:=List.mem_map.1 hm
    have:=deepXN_le f y;omega
   split <;> omega
  ·split
   ·split
    ·omega
    ·rename_i y _ _;have:=deepXN_le f y;omega
   ·refine Nat.le_trans (maxN_le (B:=2 * f + 1) fun n hn=>?_) (by omega)
    obtain ⟨y,_,rfl⟩:=List.mem_map.1 hn
    have:=deepXN_le f y
    split <;> omega
def checkB (f:Nat) (ss:List PS):Bool:=goodPB (goodXB f) ss && decide (deepPN (deepXN f) ss ≤ 200)
def checkN (f:Nat) (ss:List PS):Int:=if checkB f ss then 0 else 6
end Go.Proofs.YtgjokdngbocehaaGreatDoor
namespace Go.Proofs.YtgjokdngbocehaaGreatDoor
open Go.RowKit
def seenI (t:Int):Int:=if 0 ≤ t ∧ t ≤ 2 then t else 1
def andL (l:List Int):Int:=l.foldl (fun a t=>min a (seenI t)) 2
def orL (l:List Int):Int:=l.foldl (fun a t=>max a (seenI t)) 0
def notI (t:Int):Int:=2 - seenI t
def truthI (b:Bool):Int:=if b then 2 else 0
def T3 (t:Int):Prop:=0 ≤ t ∧ t ≤ 2
theorem seenI_3 (t:Int):T3 (seenI t):=by unfold seenI T3;split <;> omega
theorem seenI_of {t:Int} (h:T3 t):seenI t = t:=if_pos h
theorem truthI_3 (b:Bool):T3 (truthI b):=by unfold truthI T3;cases b <;> decide
theorem andL_3 (l:List Int):T3 (andL l):=by
 have:∀ (l:List Int) (a:Int),T3 a → T3 (l.foldl (fun a t=>min a (seenI t)) a):=by
  intro l
  induction l with
  | nil=>intro a h;exact h
  | cons t l ih=>intro a h;exact ih _ (by show T3 (min a (seenI t));have:=seenI_3 t;unfold T3 at *;omega)
 exact this l 2 (by unfold T3;decide)
theorem orL_3 (l:List Int):T3 (orL l):=by
 have:∀ (l:List Int) (a:Int),T3 a → T3 (l.foldl (fun a t=>max a (seenI t)) a):=by
  intro l
  induction l with
  | nil=>intro a h;exact h
  | cons t l ih=>intro a h;exact ih _ (by show T3 (max a (seenI t));have:=seenI_3 t;unfold T3 at *;omega)
 exact this l 0 (by unfold T3;decide)
theorem notI_3 (t:Int):T3 (notI t):=by have:=seenI_3 t;unfold notI T3 at *;omega
theorem andL_two {a b:Int} (ha:T3 a) (hb:T3 b):andL [a,b] = min a b:=by
 unfold andL
 simp only [List.foldl_cons,List.foldl_nil,seenI_of ha,seenI_of hb]
 unfold T3 at *;omega
theorem orL_two {a b:Int} (ha:T3 a) (hb:T3 b):orL [a,b] = max a b:=by
 unfold orL
 simp only [List.foldl_cons,List.foldl_nil,seenI_of ha,seenI_of hb]
 unfold T3 at *;omega
structure HN where
 ev:Ev
 kd:Int
 par:Int
 op:Bool
 txt:List UInt8
 bg:Nat
 en:Nat
def cmpT (v:List UInt8) (x:PX):Int:=truthI ((cmpB v x.cmp x.text x.num).getD false)
def testT (h:HN) (s:PS):Int :=
 if s.test = 0 then truthI (decide (h.kd = 1) && decide (h.ev.name = s.name)) else if s.test = 1 then truthI (decide (h.kd = 1)) else if s.test = 2 then truthI (decide (h.kd = 2)) else 2
def earlyT (v:List UInt8) (x:PX):Int :=
 let xs:=runesOf (strL v)
 let ys:=runesOf (strL x.text)
 if x.cmp = 0 then 2
 else if x.cmp = 1 then (if standsL ys xs 0 then 1 else 0)
 else if x.cmp = 2 then (if standsL ys xs 0 then 1 else 2)
 else if x.cmp = 3 then (if standsL xs ys 0 then 2 else if standsL ys xs 0 then 1 else 0)
 else if x.cmp = 5 then (if 0 ≤ findL xs ys then 2 else 1)
 else if x.cmp = 6 then (if x.num < (xs.length:Int) then 0 else 1)
 else if x.cmp = 7 then (if x.num < (xs.length:Int) then 2 else 1)
 else if x.cmp = 8 then (if x.num ≤ (xs.length:Int) then 0 else 1)
 else 1
def asksT (h:HN) (x:PX):Int :=
 if x.attr ≠ [] then (match h.ev.ats.find? fun p=>p.1 == x.attr with | none=>0 | some p=>cmpT p.2 x)
 else if h.op then earlyT h.txt x else cmpT h.txt x
theorem earlyT_3 (v:List UInt8) (x:PX):T3 (earlyT v x):=by
 unfold earlyT T3
 simp only
 repeat' split
 all_goals decide
theorem asksT_3 (h:HN) (x:PX):T3 (asksT h x):=by
 unfold asksT
 split
 ·split
  ·unfold T3;decide
  ·exact truthI_3 _
 ·split
  ·exact earlyT_3 _ _
  ·exact truthI_3 _
theorem testT_3 (h:HN) (s:PS):T3 (testT h s):=by
 unfold testT
 split
 ·exact truthI_3 _
 ·split
  ·exact truthI_3 _
  ·split
   ·exact truthI_3 _
   ·unfold T3;decide
def rowOf (n:Nat) (g:Nat → Int):List Int:=(List.range n).map g
theorem rowOf_len (n:Nat) (g:Nat → Int):(rowOf n g).length = n:=by simp [rowOf]
theorem rowOf_at (n:Nat) (g:Nat → Int) (k:Nat) (h:k < n):(rowOf n g)[k]? = some (g k):=by unfold rowOf;rw [List.getElem?_map,List.getElem?_range h];rfl
def R3 (l:List Int):Prop:=∀ t ∈ l,T3 t
theorem rowOf_3 (n:Nat) (g:Nat → Int) (h:∀ k,T3 (g k)):R3 (rowOf n g):=fun t ht=>by
 obtain ⟨k,_,rfl⟩:=List.mem_map.1 ht
 exact h k
theorem R3.at {l:List Int} (h:R3 l) (k:Nat):T3 (l.getD k 0):=by
 rw [List.getD_eq_getElem?_getD]
 cases hk:l[k]? with
 | none=>unfold T3;decide
 | some t=>exact h t (List.mem_of_getElem? hk)
def metT (ex:PX → List Int) (hs:List HN) (s:PS) (beside:List Int):List Int :=
 s.wher.foldl (fun out x=>rowOf hs.length fun k=>andL [out.getD k 0,(ex x).getD k 0]) (rowOf hs.length fun k=>andL [(hs[k]?.map fun h=>testT h s).getD 0,beside.getD k 0])
theorem metT_len (ex:PX → List Int) (hs:List HN) (s:PS) (b:List Int):(metT ex hs s b).length = hs.length:=by
 unfold metT
 have:∀ (l:List PX) (o:List Int),o.length = hs.length → (l.foldl (fun out x=>rowOf hs.length fun k=>andL [out.getD k 0,(ex x).getD k 0]) o).length = hs.length:=by
  intro l
  induction l with
  | nil=>intro o h;exact h
  | cons x l ih=>intro o h;exact ih _ (rowOf_len ..)
 exact this _ _ (rowOf_len ..)
theorem metT_3 (ex:PX → List Int) (hs:List HN) (s:PS) (b:List Int):R3 (metT ex hs s b):=by
 unfold metT
 have:∀ (l:List PX) (o:List Int),R3 o → R3 (l.foldl (fun out x=>rowOf hs.length fun k=>andL [out.getD k 0,(ex x).getD k 0]) o):=by
  intro l
  induction l with
  | nil=>intro o h;exact h
  | cons x l ih=>intro o h;exact ih _ (rowOf_3 _ _ fun k=>andL_3 _)
 exact this _ _ (rowOf_3 _ _ fun k=>andL_3 _)
def cdStep (hs:List HN) (here:List Int) (cd:List Int × List Int) (k:Nat):List Int × List Int :=
 let p:=((hs[k]?.map fun (h:HN)=>h.par).getD 0).toNat
 (cd.1.set p (orL [cd.1.getD p 0,here.getD k 0]),cd.2.set p (orL [cd.2.getD p 0,here.getD k 0,cd.2.getD k 0]))
def cdAll (hs:List HN) (here:List Int) (k:Nat):List Int × List Int :=
 ((List.range' k (hs.length - k)).reverse).foldl (cdStep hs here) (rowOf hs.length fun k=>if (hs[k]?.map fun (h:HN)=>h.op).getD false then 1 else 0,rowOf hs.length fun k=>if (hs[k]?.map fun (h:HN)=>h.op).getD false then 1 else 0)
theorem cdAll_end (hs:List HN) (here:List Int):cdAll hs here hs.length = (rowOf hs.length fun k=>if (hs[k]?.map fun (h:HN)=>h.op).getD false then 1 else 0,rowOf hs.length fun k=>if (hs[k]?.map fun (h:HN)=>h.op).getD false then 1 else 0):=by
 unfold cdAll;rw [Nat.sub_self];rfl
theorem cdAll_step (hs:List HN) (here:List Int) (k:Nat) (h:k < hs.length):cdAll hs here k = cdStep hs here (cdAll hs here (k + 1)) k:=by
 unfold cdAll
 rw [show hs.length - k = (hs.length - (k + 1)) + 1 by omega,List.range'_succ,List.reverse_cons,List.foldl_append]
 rfl
theorem R3.set {l:List Int} (h:R3 l) (p:Nat) {t:Int} (ht:T3 t):R3 (l.set p t):=fun u hu=>by
 rcases List.mem_or_eq_of_mem_set hu with h1 | h1
 ·exact h u h1
 ·rw [h1];exact ht
theorem cdAll_ok (hs:List HN) (here:List Int):∀ m k,k + m = hs.length → R3 (cdAll hs here k).1 ∧ R3 (cdAll hs here k).2 ∧ (cdAll hs here k).1.length = hs.length ∧ (cdAll hs here k).2.length = hs.length:=by
 intro m
 induction m with
 | zero =>
  intro k h
  have:k = hs.length:=by omega
  subst this
  rw [cdAll_end]
  have h3:∀ k:Nat,T3 (if (hs[k]?.map fun (h:HN)=>h.op).getD false then 1 else 0):=fun k=>by unfold T3;split <;> decide
  exact ⟨rowOf_3 _ _ h3,rowOf_3 _ _ h3,rowOf_len ..,rowOf_len ..⟩
 | succ m ih =>
  intro k h
  obtain ⟨h1,h2,h3,h4⟩:=ih (k + 1) (by omega)
  rw [cdAll_step hs here k (by omega)]
  exact ⟨h1.set _ (orL_3 _),h2.set _ (orL_3 _),by unfold cdStep;simp [h3],by unfold cdStep;simp [h4]⟩
def backT (ex:PX → List Int) (hs:List HN) (s:PS) (rest:List Int):List Int :=
 let here:=metT ex hs s rest
 if s.axis = 3 then here
 else if s.axis = 0 then (cdAll hs here 1).1
 else if s.axis = 2 then rowOf hs.length fun k=>orL [(cdAll hs here 1).2.getD k 0,here.getD k 0]
 else (cdAll hs here 1).2
theorem backT_ok (ex:PX → List Int) (hs:List HN) (hp:1 ≤ hs.length) (s:PS) (b:List Int):R3 (backT ex hs s b) ∧ (backT ex hs s b).length = hs.length:=by
 obtain ⟨h1,h2,h3,h4⟩:=cdAll_ok hs (metT ex hs s b) (hs.length - 1) 1 (by omega)
 unfold backT
 simp only
 split
 ·exact ⟨metT_3 _ _ _ _,metT_len ..⟩
 ·split
  ·exact ⟨h1,h3⟩
  ·split
   ·exact ⟨rowOf_3 _ _ fun k=>orL_3 _,rowOf_len ..⟩
   ·exact ⟨h2,h4⟩
def exprT (hs:List HN):Nat → PX → List Int
 | 0,_=>[]
 | f + 1,x =>
  if x.op = 3 then x.path.foldr (fun s out=>backT (exprT hs f) hs s out) (rowOf hs.length fun k=>(hs[k]?.map fun h=>asksT h x).getD 0)
  else rowOf hs.length fun k=>if x.op = 0 then andL (x.args.map fun y=>(exprT hs f y).getD k 0) else if x.op = 1 then orL (x.args.map fun y=>(exprT hs f y).getD k 0) else notI ((x.args.head?.map fun y=>(exprT hs f y).getD k 0).getD 0)
theorem exprT_ok (hs:List HN) (hp:1 ≤ hs.length) (f:Nat) (x:PX):R3 (exprT hs (f + 1) x) ∧ (exprT hs (f + 1) x).length = hs.length:=by
 unfold exprT
 split
 ·generalize x.path = l
  induction l with
  | nil =>
   refine ⟨rowOf_3 _ _ fun k=>?_,rowOf_len ..⟩
   cases hs[k]? with
   | none=>show T3 0;unfold T3;decide
   | some h=>exact asksT_3 _ _
  | cons s l _=>exact backT_ok _ _ hp _ _
 ·refine ⟨rowOf_3 _ _ fun k=>?_,rowOf_len ..⟩
  split
  ·exact andL_3 _
  ·split
   ·exact orL_3 _
   ·exact notI_3 _
end Go.Proofs.YtgjokdngbocehaaGreatDoor
namespace Go.Proofs.YtgjokdngbocehaaGreatDoor
open Go.RowKit
def evL (e:Ev) (A:Option Addr) (m c:Nat):List Value:=(evC e.kind e.num e.dep e.name A m c e.text e.fr e.tt).toList
def wtEs (l:List Ev):Nat:=(l.map wtE).sum
theorem wtE_pos (e:Ev):1 ≤ wtE e:=by unfold wtE;omega
theorem wtEs_length (l:List Ev):l.length ≤ wtEs l:=by
 induction l with
 | nil=>simp [wtEs]
 | cons x r ih=>have:=wtE_pos x;simp only [wtEs,List.map_cons,List.sum_cons,List.length_cons] at *;omega
theorem wtEs_mem (l:List Ev) (i:Nat) (h:i < l.length):wtE l[i] ≤ wtEs l:=by
 induction l generalizing i with
 | nil=>simp at h
 | cons x r ih =>
  simp only [wtEs,List.map_cons,List.sum_cons]
  rcases i with _ | i
  ·simp only [List.getElem_cons_zero];omega
  ·have:=ih i (by simpa using h);simp only [List.getElem_cons_succ];simp only [wtEs] at this;omega
def EvsAt (w:World) (a:Option Addr) (n:Nat) (evs:List Ev):Prop :=
 n = evs.length ∧ ∀ i,(h:i < evs.length) → ∃ b o A m c,a = some ⟨b,o,none⟩ ∧ b < w.heap.size ∧ m ≤ c ∧ AttrsAt w A m evs[i].ats ∧ ∀ j,j < 8 → w.cell? ⟨b,o + i * 8 + j,none⟩ = (evL evs[i] A m c)[j]?
theorem EvsAt.below {w w':World} {a:Option Addr} {n:Nat} {evs:List Ev} (h:EvsAt w a n evs) (hb:Below w.heap.size w w'):EvsAt w' a n evs :=
 ⟨h.1,fun i hi=>by
  obtain ⟨b,o,A,m,c,e,hlt,hmc,hA,hc⟩:=h.2 i hi
  exact ⟨b,o,A,m,c,e,Nat.lt_of_lt_of_le hlt hb.size,hmc,hA.below hb,fun j hj=>(hb.cell (p:=⟨b,o + i * 8 + j,none⟩) hlt).trans (hc j hj)⟩⟩
section
variable {H:Type} {enc:TypeId × Value → H} {w:World} {base:Nat} {sp:Nat → Bool} {held:Bool} {fuel:Nat}
def evsOf:DataW H → List Ev
 | .slice l _=>l.map evOf
 | _=>[]
theorem wtEs_le (l:List (DataW H)) (h:∀ i,(hi:i < l.length) → wtE (evOf l[i]) ≤ Rows.uptoBulk l[i]):wtEs (l.map evOf) ≤ Rows.uptoBulkAll l:=by
 induction l with
 | nil=>simp [wtEs,Rows.uptoBulkAll]
 | cons x r ih =>
  have h0:=h 0 (by simp)
  have:=ih (fun i hi=>by have:=h (i + 1) (by simpa using hi);simpa using this)
  simp only [wtEs,List.map_cons,List.sum_cons,Rows.uptoBulkAll,List.getElem_cons_zero] at *
  omega
theorem evs_read {cs:List Value} {x:DataW H × List MemPlace} (h:DataW.trod enc Tryz.prog w base sp held fuel 22 cs = some x) :
  ∃ a n c,cs = [.slice a n c] ∧ n ≤ c ∧ EvsAt w a n (evsOf x.1) ∧ wtEs (evsOf x.1) ≤ Rows.uptoBulk x.1:=by
 obtain ⟨a,n,c,elems,rfl,hnc,hel,hx,hat⟩:=slice_read Tryz.underlying22 cellsEv (by decide) h
 have hw:=wtEs_le (elems.map (·.1)) (fun i hi=>by
  rw [List.length_map] at hi
  obtain ⟨_,_,m,ecs,_,_,_,_,hr⟩:=hat i hi
  rw [List.getElem_map]
  exact (event_read hr).2.1)
 have key:EvsAt w a n (elems.map fun e=>evOf e.1):=by
  refine ⟨by rw [List.length_map,hel],fun i hi=>?_⟩
  rw [List.length_map] at hi
  obtain ⟨b,o,m,ecs,e,hb,_,hc,hr⟩:=hat i hi
  obtain ⟨⟨A,m',c',hcs,hmc,hA⟩,_⟩:=event_read hr
  rw [List.getElem_map]
  exact ⟨b,o,A,m',c',e,hb,hmc,hA,fun j hj=>by rw [hc j hj,hcs];rfl⟩
 refine ⟨a,n,c,rfl,hnc,?_⟩
 rcases hx with rfl | ⟨rest,hx⟩
 ·obtain rfl:n = 0:=by simpa using hel.symm
  rcases DataW.trod_slice Tryz.underlying22 h with ⟨_,hx⟩ | ⟨a2,len,cap,elems,rest,m,_,e,hx,_,_,_,hel2,_,_,_⟩
  ·rw [hx];exact ⟨⟨rfl,fun i hi=>by simp [evsOf] at hi⟩,by simp [evsOf,wtEs]⟩
  ·simp at e
   have:elems = []:=List.eq_nil_of_length_eq_zero (by omega)
   subst this
   rw [hx];exact ⟨⟨rfl,fun i hi=>by simp [evsOf] at hi⟩,by simp [evsOf,wtEs]⟩
 ·rw [hx]
  simp only [evsOf,List.map_map] at hw ⊢
  refine ⟨key,?_⟩
  simp only [Rows.uptoBulk]
  have e:(List.map (evOf ∘ fun x=>x.1) elems) = elems.map fun e=>evOf e.1:=rfl
  omega
end
end Go.Proofs.YtgjokdngbocehaaGreatDoor
namespace Go.Proofs.YtgjokdngbocehaaGreatDoor
open Go.RowKit
def goodF (s:ByteArray):Nat → Nat → Bool
 | 0,_=>true
 | f + 1,p=>if p < s.size then !((Utf8.decode s p).1 == 65533 && (Utf8.decode s p).2 == 1) && goodF s f (p + (Utf8.decode s p).2) else true
theorem goodF_fuel (s:ByteArray) (f:Nat):∀ (g p:Nat),s.size - p ≤ f → s.size - p ≤ g → goodF s f p = goodF s g p:=by
 induction f with
 | zero =>
  intro g p hf _
  cases g with
  | zero=>rfl
  | succ g=>simp only [goodF];rw [if_neg (by omega)]
 | succ f ih =>
  intro g p hf hg
  cases g with
  | zero=>simp only [goodF];rw [if_neg (by omega)]
  | succ g =>
   simp only [goodF]
   by_cases h:p < s.size
   ·have:=width_pos s p h
    rw [if_pos h,if_pos h,ih g _ (by omega) (by omega)]
   ·rw [if_neg h,if_neg h]
def goodAt (s:ByteArray) (p:Nat):Bool:=goodF s (s.size - p) p
theorem goodAt_step (s:ByteArray) (p:Nat) (h:p < s.size):goodAt s p = (!((Utf8.decode s p).1 == 65533 && (Utf8.decode s p).2 == 1) && goodAt s (p + (Utf8.decode s p).2)):=by
 have hw:=width_pos s p h
 unfold goodAt
 obtain ⟨f,hf⟩:∃ f,s.size - p = f + 1:=⟨s.size - p - 1,by omega⟩
 rw [hf]
 simp only [goodF]
 rw [if_pos h,goodF_fuel s f (s.size - (p + (Utf8.decode s p).2)) _ (by omega) (by omega)]
theorem bytesN_cons (s:ByteArray) (p:Nat) (h:p < s.size):∃ a x,bytesN s p = a :: x:=⟨_,_,get_nat s p h⟩
theorem cmp_bytes (s t:ByteArray) (f:Nat):∀ (p q:Nat),s.size - p ≤ f → goodAt s p = true → goodAt t q = true →
  cmpL (runesAt s p) (runesAt t q) = if natLess (bytesN s p) (bytesN t q) = true then -1 else if natLess (bytesN t q) (bytesN s p) = true then 1 else 0:=by
 induction f with
 | zero =>
  intro p q hf _ _
  rw [runesAt_end s p (by omega),bytesN_end s p (by omega)]
  by_cases h:q < t.size
  ·obtain ⟨a,x,e⟩:=bytesN_cons t q h
   rw [runesAt_step t q h,e];rfl
  ·rw [runesAt_end t q h,bytesN_end t q h];rfl
 | succ f ih =>
  intro p q hf hs ht
  by_cases h:p < s.size
  ·by_cases k:q < t.size
   ·rw [goodAt_step s p h] at hs
    rw [goodAt_step t q k] at ht
    simp only [Bool.and_eq_true,Bool.not_eq_true',Bool.and_eq_false_iff,beq_eq_false_iff_ne] at hs ht
    obtain ⟨c1,e1⟩:=decode_good s p h (by omega)
    obtain ⟨c2,e2⟩:=decode_good t q k (by omega)
    have hw:=width_pos s p h
    have:=ih (p + (Utf8.decode s p).2) (q + (Utf8.decode t q).2) (by omega) hs.2 ht.2
    rw [runesAt_step s p h,runesAt_step t q k,e1,e2]
    simp only [cmpL]
    generalize (Utf8.decode s p).1 = r at *
    generalize (Utf8.decode t q).1 = r' at *
    by_cases hlt:r < r'
    ·rw [if_pos (by omega),encN_lt _ _ _ _ hlt];rfl
    ·by_cases hgt:r' < r
     ·rw [if_neg (by omega),if_pos (by omega),encN_gt _ _ _ _ hgt,encN_lt _ _ _ _ hgt];rfl
     ·obtain rfl:r = r':=by omega
      rw [if_neg (by omega),if_neg (by omega),natLess_app,natLess_app]
      exact this
   ·obtain ⟨a,x,e⟩:=bytesN_cons s p h
    rw [runesAt_step s p h,runesAt_end t q k,e,bytesN_end t q k];rfl
  ·rw [runesAt_end s p h,bytesN_end s p h]
   by_cases k:q < t.size
   ·obtain ⟨a,x,e⟩:=bytesN_cons t q k
    rw [runesAt_step t q k,e];rfl
   ·rw [runesAt_end t q k,bytesN_end t q k];rfl
theorem less_bytes (s t:ByteArray):Op.bytesLess s.toList t.toList = natLess (bytesN s 0) (bytesN t 0):=by
 rw [bytesLess_nat,ByteArray.toList_eq,ByteArray.toList_eq];simp [bytesN]
theorem cmp_less (s t:ByteArray) (hs:goodAt s 0 = true) (ht:goodAt t 0 = true) :
  cmpL (runesOf s) (runesOf t) = if Op.bytesLess s.toList t.toList = true then -1 else if Op.bytesLess t.toList s.toList = true then 1 else 0:=by
 rw [← runesAt_zero,← runesAt_zero,less_bytes,less_bytes]
 exact cmp_bytes s t s.size 0 0 (by omega) hs ht
theorem goodF_valid (l:List UInt8) (f:Nat):∀ p,Lib.validGoD f (l.drop p) = true → l.length - p ≤ f → goodF (strU l) f p = true:=by
 induction f with
 | zero=>intro p _ _;rfl
 | succ f ih =>
  intro p h hf
  simp only [goodF,Lib.validGoD] at h ⊢
  by_cases hp:p < (strU l).size
  ·rw [if_pos hp]
   have hne:l.drop p ≠ []:=by
    intro e
    have:=congrArg List.length e
    rw [List.length_drop] at this
    rw [strU_size] at hp
    simp at this;omega
   rw [if_neg hne,decodeL_dec,decL_str] at h
   have hw:=width_pos (strU l) p hp
   split at h
   ·cases h
   ·rename_i hg
    rw [List.drop_drop] at h
    rw [ih _ h (by omega)]
    simp only [Bool.and_true,Bool.not_eq_true',Bool.and_eq_false_iff,beq_eq_false_iff_ne]
    omega
  ·rw [if_neg hp]
theorem good_valid (l:List UInt8) (h:Lib.validD l = true):goodAt (strU l) 0 = true:=by
 unfold goodAt
 rw [strU_size,Nat.sub_zero]
 exact goodF_valid l l.length 0 (by rw [List.drop_zero];exact h) (by omega)
theorem name_valid (l:List UInt8) (h:nameB l = true):Lib.validD l = true:=by
 unfold nameB at h
 simp only [Bool.and_eq_true] at h
 exact h.2.2
theorem name_cmp (l m:List UInt8) (hl:nameB l = true) (hm:nameB m = true) :
  cmpL (runesOf (strU l)) (runesOf (strU m)) = if Op.bytesLess l m = true then -1 else if Op.bytesLess m l = true then 1 else 0:=by
 have h:=cmp_less (strU l) (strU m) (good_valid l (name_valid l hl)) (good_valid m (name_valid m hm))
 rw [ByteArray.toList_eq,ByteArray.toList_eq,strU_data,strU_data] at h
 exact h
end Go.Proofs.YtgjokdngbocehaaGreatDoor
namespace Go.Proofs.YtgjokdngbocehaaGreatDoor
open Go.RowKit
def attrsB:Option (List UInt8) → List (List UInt8 × List UInt8) → Bool
 | _,[]=>true
 | q,p :: r=>nameB p.1 && textsB p.2 && (match q with | none=>true | some q=>Op.bytesLess q p.1) && attrsB (some p.1) r
structure BegS where
 opn:List (Int × Int × List UInt8)
 next:Int
 text:Bool
 cnt:Nat
def beg0:BegS:=⟨[],0,false,0⟩
def begOk (s:BegS) (e:Ev):Bool :=
 if e.kind = 0 then decide ((s.cnt = 0 ∨ s.opn ≠ []) ∧ e.num = s.next ∧ e.dep = (s.opn.length:Int) + 1 ∧ e.text = []) && nameB e.name && attrsB none e.ats
 else if e.kind = 1 then decide (s.opn ≠ [] ∧ e.num = s.next ∧ e.dep = (s.opn.length:Int) + 1 ∧ e.name = [] ∧ e.ats = [] ∧ e.text ≠ []) && textsB e.text && !s.text
 else if e.kind = 2 then decide (e.text = [] ∧ e.ats = [] ∧ s.opn.head? = some (e.num,e.dep,e.name))
 else false
def begNext (s:BegS) (e:Ev):BegS :=
 ⟨if e.kind = 0 then (e.num,e.dep,e.name) :: s.opn else if e.kind = 2 then s.opn.tail else s.opn,if e.kind = 2 then s.next else s.next + 1,e.kind == 1,s.cnt + 1⟩
def begAll:BegS → List Ev → Option BegS
 | s,[]=>some s
 | s,e :: l=>if begOk s e = true then begAll (begNext s e) l else none
theorem begAll_snoc (s:BegS) (l:List Ev) (e:Ev):begAll s (l ++ [e]) = (begAll s l).bind fun t=>if begOk t e = true then some (begNext t e) else none:=by
 induction l generalizing s with
 | nil=>simp only [List.nil_append,begAll,Option.bind_some]
 | cons x l ih =>
  simp only [List.cons_append,begAll]
  split
  ·exact ih _
  ·rfl
theorem begAll_app (s:BegS) (l m:List Ev):begAll s (l ++ m) = (begAll s l).bind fun t=>begAll t m:=by
 induction l generalizing s with
 | nil=>rfl
 | cons x l ih =>
  simp only [List.cons_append,begAll]
  split
  ·exact ih _
  ·rfl
end Go.Proofs.YtgjokdngbocehaaGreatDoor
namespace Go.Proofs.YtgjokdngbocehaaGreatDoor
open Go.RowKit
structure Nd where
 pos:Nat
 par:Int
 last:Int
 fin:Nat
def ndNext (s:BegS) (nds:List Nd) (e:Ev):List Nd :=
 if e.kind = 2 then nds.modify e.num.toNat (fun x=>⟨x.pos,x.par,(nds.length:Int) - 1,s.cnt + 1⟩)
 else nds ++ [⟨s.cnt,(s.opn.head?.map (·.1)).getD (-1),e.num,s.cnt + 1⟩]
def ndAll:BegS → List Nd → List Ev → List Nd
 | _,nds,[]=>nds
 | s,nds,e :: l=>ndAll (begNext s e) (ndNext s nds e) l
def nodesB (l:List Ev):List Nd:=ndAll beg0 [] l
structure NdInv (pre:List Ev) (s:BegS) (nds:List Nd):Prop where
 cnt:s.cnt = pre.length
 nxt:s.next = (nds.length:Int)
 opn:∀ x ∈ s.opn,0 ≤ x.1 ∧ x.1 < s.next
 srt:s.opn.Pairwise (fun a b=>b.1 < a.1)
 here:∀ (n:Nat) (x:Nd),nds[n]? = some x → ∃ e,pre[x.pos]? = some e ∧ e.kind ≠ 2 ∧ e.num = (n:Int)
 beg:∀ (j:Nat) (e:Ev),pre[j]? = some e → e.kind ≠ 2 → 0 ≤ e.num ∧ ∃ x,nds[e.num.toNat]? = some x ∧ x.pos = j
 fin:∀ (j:Nat) (e:Ev),pre[j]? = some e → e.kind ≠ 0 → 0 ≤ e.num ∧ (∀ x ∈ s.opn,x.1 ≠ e.num) ∧ ∃ x,nds[e.num.toNat]? = some x ∧ x.fin = j + 1
 rng:∀ (n:Nat) (x:Nd),nds[n]? = some x → x.pos < x.fin ∧ x.fin ≤ pre.length
theorem NdInv.start:NdInv [] beg0 [] :=
 ⟨rfl,rfl,fun x h=>(by cases h),List.Pairwise.nil,fun n x h=>(by cases h),fun j e h=>(by cases h),fun j e h=>(by cases h),fun n x h=>(by cases h)⟩
theorem snoc_get {α:Type} {l:List α} {x y:α} {j:Nat} (h:(l ++ [x])[j]? = some y):(j < l.length ∧ l[j]? = some y) ∨ (j = l.length ∧ y = x):=by
 rcases Nat.lt_trichotomy j l.length with h1 | h1 | h1
 ·rw [List.getElem?_append_left h1] at h;exact .inl ⟨h1,h⟩
 ·subst h1;simp at h;exact .inr ⟨rfl,h.symm⟩
 ·rw [List.getElem?_append_right (by omega)] at h
  have:([x]:List α)[j - l.length]? = none:=List.getElem?_eq_none (by simp;omega)
  rw [this] at h;cases h
theorem get_lt {α:Type} {l:List α} {y:α} {j:Nat} (h:l[j]? = some y):j < l.length:=(List.getElem?_eq_some_iff.1 h).1
theorem get_snoc {α:Type} {l:List α} {x y:α} {j:Nat} (h:l[j]? = some y):(l ++ [x])[j]? = some y:=by rw [List.getElem?_append_left (get_lt h)];exact h
theorem get_last {α:Type} (l:List α) (x:α):(l ++ [x])[l.length]? = some x:=by simp
theorem begOk_new {s:BegS} {e:Ev} (h:begOk s e = true) (hk:e.kind ≠ 2):e.num = s.next ∧ (e.kind = 0 ∨ e.kind = 1):=by
 unfold begOk at h
 by_cases h0:e.kind = 0
 ·rw [if_pos h0] at h
  simp only [Bool.and_eq_true,decide_eq_true_eq] at h
  exact ⟨h.1.1.2.1,.inl h0⟩
 ·by_cases h1:e.kind = 1
  ·rw [if_neg h0,if_pos h1] at h
   simp only [Bool.and_eq_true,decide_eq_true_eq] at h
   exact ⟨h.1.1.2.1,.inr h1⟩
  ·rw [if_neg h0,if_neg h1,if_neg hk] at h
   cases h
theorem begOk_close {s:BegS} {e:Ev} (h:begOk s e = true) (hk:e.kind = 2):s.opn.head? = some (e.num,e.dep,e.name):=by
 unfold begOk at h
 rw [if_neg (by omega),if_neg (by omega),if_pos hk] at h
 simp only [decide_eq_true_eq] at h
 exact h.2.2
theorem NdInv.step {pre:List Ev} {s:BegS} {nds:List Nd} {e:Ev} (h:NdInv pre s nds) (he:begOk s e = true):NdInv (pre ++ [e]) (begNext s e) (ndNext s nds e):=by
 obtain ⟨h1,h2,h3,h4,h5,h6,h7,h8⟩:=h
 by_cases hk:e.kind = 2
 ·have hh:=begOk_close he hk
  obtain ⟨rest,hr⟩:∃ rest,s.opn = (e.num,e.dep,e.name) :: rest:=by
   cases ho:s.opn with
   | nil=>rw [ho] at hh;cases hh
   | cons a r=>rw [ho] at hh;simp at hh;exact ⟨r,by rw [hh]⟩
  have hnum:=h3 _ (by rw [hr];exact List.mem_cons_self)
  simp only at hnum
  have hm:∀ (n:Nat) (x:Nd),(ndNext s nds e)[n]? = some x → ∃ y,nds[n]? = some y ∧ x.pos = y.pos ∧ (x.fin = s.cnt + 1 ∨ x.fin = y.fin):=by
   intro n x hx
   unfold ndNext at hx
   rw [if_pos hk,List.getElem?_modify] at hx
   cases hy:nds[n]? with
   | none=>rw [hy] at hx;simp at hx
   | some y =>
    rw [hy] at hx
    by_cases hn:e.num.toNat = n
    ·simp [hn] at hx;subst hx;exact ⟨y,rfl,rfl,.inl rfl⟩
    ·simp [hn] at hx;subst hx;exact ⟨y,rfl,rfl,.inr rfl⟩
  have hm2:∀ (n:Nat) (y:Nd),nds[n]? = some y → ∃ x,(ndNext s nds e)[n]? = some x ∧ x.pos = y.pos ∧ (n ≠ e.num.toNat → x.fin = y.fin) ∧ (n = e.num.toNat → x.fin = s.cnt + 1):=by
   intro n y hy
   unfold ndNext
   rw [if_pos hk,List.getElem?_modify,hy]
   by_cases hn:e.num.toNat = n
   ·exact ⟨⟨y.pos,y.par,(nds.length:Int) - 1,s.cnt + 1⟩,by simp [hn],rfl,fun h=>absurd hn.symm h,fun _=>rfl⟩
   ·exact ⟨y,by simp [hn],rfl,fun _=>rfl,fun h=>absurd h.symm hn⟩
  have hlen:(ndNext s nds e).length = nds.length:=by unfold ndNext;rw [if_pos hk,List.length_modify]
  have hnx:(begNext s e).next = s.next:=by unfold begNext;simp [hk]
  have hop:(begNext s e).opn = rest:=by unfold begNext;simp [hk,hr]
  rw [hr] at h4
  have hp:=List.pairwise_cons.1 h4
  refine ⟨by simp [begNext,h1],by rw [hnx,hlen];exact h2,?_,by rw [hop];exact hp.2,?_,?_,?_,?_⟩
  ·intro x hx
   rw [hop] at hx
   rw [hnx]
   exact h3 x (by rw [hr];exact List.mem_cons_of_mem _ hx)
  ·intro n x hx
   obtain ⟨y,hy,hp,_⟩:=hm n x hx
   obtain ⟨e',h',h''⟩:=h5 n y hy
   exact ⟨e',by rw [hp];exact get_snoc h',h''⟩
  ·intro j e' hj hk'
   rcases snoc_get hj with ⟨_,hj⟩ | ⟨_,rfl⟩
   ·obtain ⟨ha,y,hy,hp⟩:=h6 j e' hj hk'
    obtain ⟨x,hx,hxp,_⟩:=hm2 _ y hy
    exact ⟨ha,x,hx,by rw [hxp,hp]⟩
   ·exact absurd hk hk'
  ·intro j e' hj hk'
   rcases snoc_get hj with ⟨_,hj⟩ | ⟨hjl,rfl⟩
   ·obtain ⟨ha,hb,y,hy,hf⟩:=h7 j e' hj hk'
    obtain ⟨x,hx,_,hxf,_⟩:=hm2 _ y hy
    have hne:=hb _ (by rw [hr];exact List.mem_cons_self)
    simp only at hne
    exact ⟨ha,fun z hz=>hb z (by rw [hr];rw [hop] at hz;exact List.mem_cons_of_mem _ hz),x,hx,by rw [hxf (by omega),hf]⟩
   ·have hlt:e'.num.toNat < nds.length:=by omega
    obtain ⟨x,hx,_,_,hxf⟩:=hm2 _ _ (List.getElem?_eq_getElem hlt)
    refine ⟨hnum.1,fun z hz=>?_,x,hx,by rw [hxf rfl,h1,hjl]⟩
    rw [hop] at hz
    have:=hp.1 z hz
    simp only at this
    omega
  ·intro n x hx
   obtain ⟨y,hy,hp,hf⟩:=hm n x hx
   have:=h8 n y hy
   rw [List.length_append,List.length_singleton]
   rcases hf with hf | hf <;> rw [hf,hp] <;> omega
 ·obtain ⟨hn,hk01⟩:=begOk_new he hk
  have hnd:ndNext s nds e = nds ++ [⟨s.cnt,(s.opn.head?.map (·.1)).getD (-1),e.num,s.cnt + 1⟩]:=by unfold ndNext;rw [if_neg hk]
  rw [hnd]
  have hnx:(begNext s e).next = s.next + 1:=by unfold begNext;simp [hk]
  have hen:e.num.toNat = nds.length:=by omega
  have hop:∀ x ∈ (begNext s e).opn,x ∈ s.opn ∨ (e.kind = 0 ∧ x.1 = e.num):=by
   intro x hx
   unfold begNext at hx
   simp only [hk,if_false] at hx
   by_cases h0:e.kind = 0
   ·rw [if_pos h0] at hx
    rcases List.mem_cons.1 hx with rfl | hx
    ·exact .inr ⟨h0,rfl⟩
    ·exact .inl hx
   ·rw [if_neg h0] at hx;exact .inl hx
  refine ⟨by simp [begNext,h1],by rw [hnx,h2];simp,?_,?_,?_,?_,?_,?_⟩
  ·intro x hx
   rw [hnx]
   rcases hop x hx with h | ⟨_,h⟩
   ·have:=h3 x h;omega
   ·omega
  ·unfold begNext
   simp only [hk,if_false]
   by_cases h0:e.kind = 0
   ·rw [if_pos h0]
    exact List.pairwise_cons.2 ⟨fun z hz=>by have:=h3 z hz;simp only;omega,h4⟩
   ·rw [if_neg h0];exact h4
  ·intro n x hx
   rcases snoc_get hx with ⟨_,hx⟩ | ⟨hn',rfl⟩
   ·obtain ⟨e',h',h''⟩:=h5 n x hx
    exact ⟨e',get_snoc h',h''⟩
   ·exact ⟨e,by simp only [h1];exact get_last _ _,hk,by omega⟩
  ·intro j e' hj hk'
   rcases snoc_get hj with ⟨_,hj⟩ | ⟨hjl,rfl⟩
   ·obtain ⟨ha,y,hy,hp⟩:=h6 j e' hj hk'
    exact ⟨ha,y,get_snoc hy,hp⟩
   ·exact ⟨by omega,_,by rw [hen];exact get_last _ _,by simp only;omega⟩
  ·intro j e' hj hk'
   rcases snoc_get hj with ⟨_,hj⟩ | ⟨hjl,rfl⟩
   ·obtain ⟨ha,hb,y,hy,hf⟩:=h7 j e' hj hk'
    refine ⟨ha,fun z hz=>?_,y,get_snoc hy,hf⟩
    rcases hop z hz with h | ⟨_,h⟩
    ·exact hb z h
    ·have:=get_lt hy;omega
   ·refine ⟨by omega,fun z hz=>?_,_,by rw [hen];exact get_last _ _,by simp only;omega⟩
    rcases hop z hz with h | ⟨h,_⟩
    ·have:=h3 z h;omega
    ·exact absurd h hk'
  ·intro n x hx
   rw [List.length_append,List.length_singleton]
   rcases snoc_get hx with ⟨_,hx⟩ | ⟨_,rfl⟩
   ·have:=h8 n x hx;omega
   ·simp only;omega
theorem NdInv.all {pre:List Ev} {s:BegS} {nds:List Nd} (h:NdInv pre s nds):∀ (l:List Ev) {t:BegS},begAll s l = some t → NdInv (pre ++ l) t (ndAll s nds l):=by
 intro l
 induction l generalizing pre s nds with
 | nil=>intro t ht;simp only [begAll,Option.some.injEq] at ht;subst ht;simpa [ndAll] using h
 | cons e l ih =>
  intro t ht
  unfold begAll at ht
  split at ht
  ·rename_i he
   have:=ih (h.step he) ht
   simpa [ndAll] using this
  ·cases ht
theorem nodesB_inv {l:List Ev} {t:BegS} (h:begAll beg0 l = some t):NdInv l t (nodesB l):=by
 have:=NdInv.start.all l h
 unfold nodesB
 simpa using this
theorem begAll_take {s t:BegS} {l:List Ev} (h:begAll s l = some t) (i:Nat):∃ u,begAll s (l.take i) = some u:=by
 have h2:=h
 rw [← List.take_append_drop i l,begAll_app] at h2
 cases h3:begAll s (l.take i) with
 | none=>rw [h3] at h2;cases h2
 | some u=>exact ⟨u,rfl⟩
theorem begAll_at {s t:BegS} {l:List Ev} (h:begAll s l = some t) (i:Nat) (hi:i < l.length) {u:BegS} (hu:begAll s (l.take i) = some u):begOk u l[i] = true ∧ begAll s (l.take (i + 1)) = some (begNext u l[i]):=by
 have h2:=h
 rw [← List.take_append_drop i l,begAll_app,hu,List.drop_eq_getElem_cons hi] at h2
 simp only [Option.bind_some,begAll] at h2
 split at h2
 ·rename_i hok
  refine ⟨hok,?_⟩
  rw [List.take_succ_eq_append_getElem hi,begAll_snoc,hu]
  simp [hok]
 ·cases h2
theorem beg_le:∀ (l:List Ev) (s t:BegS),begAll s l = some t → t.opn.length ≤ s.opn.length + l.length ∧ t.next ≤ s.next + l.length ∧ s.next ≤ t.next ∧ t.cnt = s.cnt + l.length:=by
 intro l
 induction l with
 | nil=>intro s t h;simp only [begAll,Option.some.injEq] at h;subst h;simp
 | cons e l ih =>
  intro s t h
  unfold begAll at h
  split at h
  ·have:=ih _ _ h
   have h1:(begNext s e).opn.length ≤ s.opn.length + 1:=by
    unfold begNext
    simp only
    split
    ·simp
    ·split
     ·simp;omega
     ·omega
   have h2:(begNext s e).next ≤ s.next + 1 ∧ s.next ≤ (begNext s e).next:=by
    unfold begNext
    simp only
    split <;> omega
   have h3:(begNext s e).cnt = s.cnt + 1:=rfl
   simp only [List.length_cons]
   omega
  ·cases h
end Go.Proofs.YtgjokdngbocehaaGreatDoor
namespace Go.Proofs.YtgjokdngbocehaaGreatDoor
open Go.RowKit
def NdLast (nds:List Nd):Prop:=∀ (n:Nat) (x:Nd),nds[n]? = some x → (n:Int) ≤ x.last ∧ x.last < nds.length
theorem NdLast.step {pre:List Ev} {s:BegS} {nds:List Nd} {e:Ev} (hi:NdInv pre s nds) (h:NdLast nds) (he:begOk s e = true):NdLast (ndNext s nds e):=by
 intro n x hx
 by_cases hk:e.kind = 2
 ·have hh:=begOk_close he hk
  obtain ⟨rest,hr⟩:∃ rest,s.opn = (e.num,e.dep,e.name) :: rest:=by
   cases ho:s.opn with
   | nil=>rw [ho] at hh;cases hh
   | cons a r=>rw [ho] at hh;simp at hh;exact ⟨r,by rw [hh]⟩
  have hnum:=hi.opn _ (by rw [hr];exact List.mem_cons_self)
  simp only at hnum
  have hnx:=hi.nxt
  have hlen:(ndNext s nds e).length = nds.length:=by unfold ndNext;rw [if_pos hk,List.length_modify]
  rw [hlen]
  unfold ndNext at hx
  rw [if_pos hk,List.getElem?_modify] at hx
  cases hy:nds[n]? with
  | none=>rw [hy] at hx;simp at hx
  | some y =>
   rw [hy] at hx
   have hnl:=get_lt hy
   by_cases hn:e.num.toNat = n
   ·simp [hn] at hx
    subst hx
    simp only
    omega
   ·simp [hn] at hx
    subst hx
    exact h n y hy
 ·have hnum:=(begOk_new he hk).1
  have hnx:=hi.nxt
  unfold ndNext at hx ⊢
  rw [if_neg hk] at hx ⊢
  rw [List.length_append]
  rcases snoc_get hx with ⟨_,hx⟩ | ⟨rfl,rfl⟩
  ·have:=h n x hx
   simp
   omega
  ·simp
   omega
theorem NdLast.all {pre:List Ev} {s:BegS} {nds:List Nd} (hi:NdInv pre s nds) (h:NdLast nds):∀ (l:List Ev) {t:BegS},begAll s l = some t → NdLast (ndAll s nds l):=by
 intro l
 induction l generalizing pre s nds with
 | nil=>intro t _;exact h
 | cons e l ih =>
  intro t ht
  unfold begAll at ht
  split at ht
  ·rename_i he
   exact ih (hi.step he) (h.step hi he) ht
  ·cases ht
theorem nodesB_last {l:List Ev} {t:BegS} (h:begAll beg0 l = some t):NdLast (nodesB l) :=
 NdLast.all NdInv.start (fun n x hx=>by simp at hx) l h
def lastN (evs:List Ev) (i:Nat):Nat:=((nodesB evs)[i]?.map (·.last.toNat)).getD 0
theorem lastN_rng {l:List Ev} {t:BegS} (h:begAll beg0 l = some t):∀ i,i < (nodesB l).length → i ≤ lastN l i ∧ lastN l i < (nodesB l).length:=by
 intro i hi
 have:=nodesB_last h i _ (List.getElem?_eq_getElem hi)
 unfold lastN
 rw [List.getElem?_eq_getElem hi]
 simp only [Option.map_some,Option.getD_some]
 omega
theorem lastN_at {l:List Ev} {t:BegS} (h:begAll beg0 l = some t) {i:Nat} {x:Nd} (hx:(nodesB l)[i]? = some x):((lastN l i:Nat):Int) = x.last:=by
 have:=nodesB_last h i x hx
 unfold lastN
 rw [hx]
 simp only [Option.map_some,Option.getD_some]
 omega
end Go.Proofs.YtgjokdngbocehaaGreatDoor
