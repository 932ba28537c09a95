/-
  Paths and expressions in memory, down to a depth; what they mean, by sets of nodes as rows of booleans, node n at n + 1.
-/
import Derived.Test.YtgjokdngbocehaaGreatDoorHsA
import Derived.Test.YtgjokdngbocehaaGreatDoorHsC
import Derived.Test.YtgjokdngbocehaaGreatDoorHsD
import Derived.Test.YtgjokdngbocehaaGreatDoorHsE
import Derived.Test.YtgjokdngbocehaaGreatDoorHsL
namespace Go.Proofs.YtgjokdngbocehaaGreatDoor
open Go.RowKit
mutual
inductive PX where
 | mk (op:Int) (args:List PX) (path:List PS) (attr:List UInt8) (cmp:Int) (text:List UInt8) (num:Int):PX
inductive PS where
 | mk (axis test:Int) (name:List UInt8) (wher:List PX):PS
end
def PX.op:PX → Int | .mk o _ _ _ _ _ _=>o
def PX.args:PX → List PX | .mk _ a _ _ _ _ _=>a
def PX.path:PX → List PS | .mk _ _ p _ _ _ _=>p
def PX.attr:PX → List UInt8 | .mk _ _ _ a _ _ _=>a
def PX.cmp:PX → Int | .mk _ _ _ _ c _ _=>c
def PX.text:PX → List UInt8 | .mk _ _ _ _ _ t _=>t
def PX.num:PX → Int | .mk _ _ _ _ _ _ n=>n
def PS.axis:PS → Int | .mk a _ _ _=>a
def PS.test:PS → Int | .mk _ t _ _=>t
def PS.name:PS → List UInt8 | .mk _ _ n _=>n
def PS.wher:PS → List PX | .mk _ _ _ w=>w
def W64 (x:Int):Prop:=-9223372036854775808 ≤ x ∧ x ≤ 9223372036854775807
def RowP {α:Type} (P:World → α → List Value → Prop) (k:Nat) (w:World) (a:Option Addr) (l:List α):Prop :=
 ∀ i,(h:i < l.length) → ∃ b o cs,a = some ⟨b,o,none⟩ ∧ b < w.heap.size ∧ cs.length = k ∧ (∀ j,j < k → w.cell? ⟨b,o + i * k + j,none⟩ = cs[j]?) ∧ P w l[i] cs
def StepAt (P:World → PX → List Value → Prop) (w:World) (s:PS) (cs:List Value):Prop :=
 ∃ a c,cs = [.int .i64 s.axis,.int .i64 s.test,.string (strL s.name),.slice a s.wher.length c] ∧ s.wher.length ≤ c ∧ W64 s.axis ∧ W64 s.test ∧ s.name.length ≤ 1048576 ∧ s.wher.length ≤ 1048576 ∧ RowP P 7 w a s.wher
def XAt:Nat → World → PX → List Value → Prop
 | 0,_,_,_=>False
 | f + 1,w,x,cs=>∃ a c p d,cs = [.int .i64 x.op,.slice a x.args.length c,.slice p x.path.length d,.string (strL x.attr),.int .i64 x.cmp,.string (strL x.text),.int .i64 x.num] ∧
   x.args.length ≤ c ∧ x.path.length ≤ d ∧ W64 x.op ∧ W64 x.cmp ∧ W64 x.num ∧ x.attr.length ≤ 1048576 ∧ x.text.length ≤ 1048576 ∧ x.args.length ≤ 1048576 ∧ x.path.length ≤ 1048576 ∧
   RowP (XAt f) 7 w a x.args ∧ RowP (StepAt (XAt f)) 4 w p x.path
def SsAt (f:Nat) (w:World) (a:Option Addr) (l:List PS):Prop:=RowP (StepAt (XAt f)) 4 w a l
def XsAt (f:Nat) (w:World) (a:Option Addr) (l:List PX):Prop:=RowP (XAt f) 7 w a l
theorem RowP.turn {α:Type} {P Q:World → α → List Value → Prop} {k:Nat} {w w':World} {a:Option Addr} {l:List α} (h:RowP P k w a l) (hb:Below w.heap.size w w')
  (hPQ:∀ x ∈ l,∀ cs,P w x cs → Q w' x cs):RowP Q k w' a l:=fun i hi=>by
 obtain ⟨b,o,cs,h1,h2,h3,h4,h5⟩:=h i hi
 exact ⟨b,o,cs,h1,Nat.lt_of_lt_of_le h2 hb.size,h3,fun j hj=>(hb.cell (p:=⟨b,o + i * k + j,none⟩) h2).trans (h4 j hj),hPQ _ (List.getElem_mem hi) cs h5⟩
theorem StepAt.turn {P Q:World → PX → List Value → Prop} {w w':World} {s:PS} {cs:List Value} (h:StepAt P w s cs) (hb:Below w.heap.size w w') (hPQ:∀ x cs,P w x cs → Q w' x cs):StepAt Q w' s cs:=by
 obtain ⟨a,c,h1,h2,h3,h4,h5,h6,h7⟩:=h
 exact ⟨a,c,h1,h2,h3,h4,h5,h6,h7.turn hb fun x _ cs=>hPQ x cs⟩
theorem XAt.turn {w w':World} (hb:Below w.heap.size w w'):∀ {f g:Nat} {x:PX} {cs:List Value},f ≤ g → XAt f w x cs → XAt g w' x cs
 | 0,_,_,_,_,h=>h.elim
 | _ + 1,0,_,_,hfg,_=>absurd hfg (Nat.not_succ_le_zero _)
 | _ + 1,_ + 1,_,_,hfg,⟨a,c,p,d,h1,h2,h3,h4,h5,h6,h7,h8,h9,h10,h11,h12⟩ =>
  ⟨a,c,p,d,h1,h2,h3,h4,h5,h6,h7,h8,h9,h10,h11.turn hb fun _ _ _=>XAt.turn hb (Nat.le_of_succ_le_succ hfg),h12.turn hb fun _ _ _ h=>h.turn hb fun _ _=>XAt.turn hb (Nat.le_of_succ_le_succ hfg)⟩
theorem XsAt.turn {f g:Nat} {w w':World} {a:Option Addr} {l:List PX} (h:XsAt f w a l) (hb:Below w.heap.size w w') (hfg:f ≤ g):XsAt g w' a l:=RowP.turn h hb fun _ _ _=>XAt.turn hb hfg
theorem SsAt.turn {f g:Nat} {w w':World} {a:Option Addr} {l:List PS} (h:SsAt f w a l) (hb:Below w.heap.size w w') (hfg:f ≤ g):SsAt g w' a l:=RowP.turn h hb fun _ _ _ h=>h.turn hb fun _ _=>XAt.turn hb hfg
theorem XsAt.below {f:Nat} {w w':World} {a:Option Addr} {l:List PX} (h:XsAt f w a l) (hb:Below w.heap.size w w'):XsAt f w' a l:=h.turn hb (Nat.le_refl _)
theorem SsAt.below {f:Nat} {w w':World} {a:Option Addr} {l:List PS} (h:SsAt f w a l) (hb:Below w.heap.size w w'):SsAt f w' a l:=h.turn hb (Nat.le_refl _)
theorem RowP.nil {α:Type} (P:World → α → List Value → Prop) (k:Nat) (w:World) (a:Option Addr):RowP P k w a []:=fun _ h=>absurd h (Nat.not_lt_zero _)
theorem SsAt.get {f:Nat} {w:World} {a:Option Addr} {l:List PS} (h:SsAt f w a l) (i:Nat) (hi:i < l.length) :
  ∃ b o wa wc,a = some ⟨b,o,none⟩ ∧ b < w.heap.size ∧ XsAt f w wa l[i].wher ∧ l[i].wher.length ≤ wc ∧ W64 l[i].axis ∧ W64 l[i].test ∧ l[i].name.length ≤ 1048576 ∧ l[i].wher.length ≤ 1048576 ∧
   ∀ W,Below w.heap.size w W → W.cell? ⟨b,o + i * 4,none⟩ = some (.int .i64 l[i].axis) ∧ W.cell? ⟨b,o + i * 4 + 1,none⟩ = some (.int .i64 l[i].test) ∧ W.cell? ⟨b,o + i * 4 + 2,none⟩ = some (.string (strL l[i].name)) ∧
    W.cell? ⟨b,o + i * 4 + 3,none⟩ = some (.slice wa l[i].wher.length wc):=by
 obtain ⟨b,o,cs,h1,h2,h3,h4,wa,wc,h5,h6,h7,h8,h9,h10,h11⟩:=h i hi
 refine ⟨b,o,wa,wc,h1,h2,h11,h6,h7,h8,h9,h10,fun W hW=>?_⟩
 have k:=fun j (hj:j < 4)=>(hW.cell (p:=⟨b,o + i * 4 + j,none⟩) h2).trans (h4 j hj)
 rw [h5] at k
 exact ⟨k 0 (by decide),k 1 (by decide),k 2 (by decide),k 3 (by decide)⟩
theorem XsAt.get {f:Nat} {w:World} {a:Option Addr} {l:List PX} (h:XsAt (f + 1) w a l) (i:Nat) (hi:i < l.length) :
  ∃ b o aa ac pa pc,a = some ⟨b,o,none⟩ ∧ b < w.heap.size ∧ XsAt f w aa l[i].args ∧ SsAt f w pa l[i].path ∧ l[i].args.length ≤ ac ∧ l[i].path.length ≤ pc ∧ W64 l[i].op ∧ W64 l[i].cmp ∧ W64 l[i].num ∧
   l[i].attr.length ≤ 1048576 ∧ l[i].text.length ≤ 1048576 ∧ l[i].args.length ≤ 1048576 ∧ l[i].path.length ≤ 1048576 ∧
   ∀ W,Below w.heap.size w W → W.cell? ⟨b,o + i * 7,none⟩ = some (.int .i64 l[i].op) ∧ W.cell? ⟨b,o + i * 7 + 1,none⟩ = some (.slice aa l[i].args.length ac) ∧ W.cell? ⟨b,o + i * 7 + 2,none⟩ = some (.slice pa l[i].path.length pc) ∧
    W.cell? ⟨b,o + i * 7 + 3,none⟩ = some (.string (strL l[i].attr)) ∧ W.cell? ⟨b,o + i * 7 + 4,none⟩ = some (.int .i64 l[i].cmp) ∧ W.cell? ⟨b,o + i * 7 + 5,none⟩ = some (.string (strL l[i].text)) ∧
    W.cell? ⟨b,o + i * 7 + 6,none⟩ = some (.int .i64 l[i].num):=by
 obtain ⟨b,o,cs,h1,h2,h3,h4,aa,ac,pa,pc,h5,h6,h7,h8,h9,h10,h11,h12,h13,h14,h15,h16⟩:=h i hi
 refine ⟨b,o,aa,ac,pa,pc,h1,h2,h15,h16,h6,h7,h8,h9,h10,h11,h12,h13,h14,fun W hW=>?_⟩
 have k:=fun j (hj:j < 7)=>(hW.cell (p:=⟨b,o + i * 7 + j,none⟩) h2).trans (h4 j hj)
 rw [h5] at k
 exact ⟨k 0 (by decide),k 1 (by decide),k 2 (by decide),k 3 (by decide),k 4 (by decide),k 5 (by decide),k 6 (by decide)⟩
def stepC (s:PS) (wa:Option Addr) (wc:Nat):List Value:=[.int .i64 s.axis,.int .i64 s.test,.string (strL s.name),.slice wa s.wher.length wc]
def exprC (x:PX) (aa:Option Addr) (ac:Nat) (pa:Option Addr) (pc:Nat):List Value :=
 [.int .i64 x.op,.slice aa x.args.length ac,.slice pa x.path.length pc,.string (strL x.attr),.int .i64 x.cmp,.string (strL x.text),.int .i64 x.num]
theorem SsAt.get' {f:Nat} {w:World} {a:Option Addr} {l:List PS} (h:SsAt f w a l) (i:Nat) (hi:i < l.length) :
  ∃ b o wa wc,a = some ⟨b,o,none⟩ ∧ b < w.heap.size ∧ StepAt (XAt f) w l[i] (stepC l[i] wa wc) ∧
   ∀ W,Below w.heap.size w W → W.cell? ⟨b,o + i * 4,none⟩ = some (.int .i64 l[i].axis) ∧ W.cell? ⟨b,o + i * 4 + 1,none⟩ = some (.int .i64 l[i].test) ∧ W.cell? ⟨b,o + i * 4 + 2,none⟩ = some (.string (strL l[i].name)) ∧
    W.cell? ⟨b,o + i * 4 + 3,none⟩ = some (.slice wa l[i].wher.length wc):=by
 obtain ⟨b,o,cs,h1,h2,h3,h4,wa,wc,h5,h6,h7,h8,h9,h10,h11⟩:=h i hi
 refine ⟨b,o,wa,wc,h1,h2,⟨wa,wc,rfl,h6,h7,h8,h9,h10,h11⟩,fun W hW=>?_⟩
 have k:=fun j (hj:j < 4)=>(hW.cell (p:=⟨b,o + i * 4 + j,none⟩) h2).trans (h4 j hj)
 rw [h5] at k
 exact ⟨k 0 (by decide),k 1 (by decide),k 2 (by decide),k 3 (by decide)⟩
theorem XsAt.get' {f:Nat} {w:World} {a:Option Addr} {l:List PX} (h:XsAt f w a l) (i:Nat) (hi:i < l.length) :
  ∃ b o aa ac pa pc,a = some ⟨b,o,none⟩ ∧ b < w.heap.size ∧ XAt f w l[i] (exprC l[i] aa ac pa pc) ∧
   ∀ W,Below w.heap.size w W → W.cell? ⟨b,o + i * 7,none⟩ = some (.int .i64 l[i].op) ∧ W.cell? ⟨b,o + i * 7 + 1,none⟩ = some (.slice aa l[i].args.length ac) ∧ W.cell? ⟨b,o + i * 7 + 2,none⟩ = some (.slice pa l[i].path.length pc) ∧
    W.cell? ⟨b,o + i * 7 + 3,none⟩ = some (.string (strL l[i].attr)) ∧ W.cell? ⟨b,o + i * 7 + 4,none⟩ = some (.int .i64 l[i].cmp) ∧ W.cell? ⟨b,o + i * 7 + 5,none⟩ = some (.string (strL l[i].text)) ∧
    W.cell? ⟨b,o + i * 7 + 6,none⟩ = some (.int .i64 l[i].num):=by
 cases f with
 | zero=>obtain ⟨_,_,_,_,_,_,_,h⟩:=h i hi;exact h.elim
 | succ f =>
  obtain ⟨b,o,cs,h1,h2,h3,h4,aa,ac,pa,pc,h5,hr⟩:=h i hi
  refine ⟨b,o,aa,ac,pa,pc,h1,h2,⟨aa,ac,pa,pc,rfl,hr⟩,fun W hW=>?_⟩
  have k:=fun j (hj:j < 7)=>(hW.cell (p:=⟨b,o + i * 7 + j,none⟩) h2).trans (h4 j hj)
  rw [h5] at k
  exact ⟨k 0 (by decide),k 1 (by decide),k 2 (by decide),k 3 (by decide),k 4 (by decide),k 5 (by decide),k 6 (by decide)⟩
theorem XsAt.zero {w:World} {a:Option Addr} {l:List PX} (h:XsAt 0 w a l):l = []:=by
 cases l with
 | nil=>rfl
 | cons x l=>obtain ⟨_,_,_,_,_,_,_,h⟩:=h 0 (by simp);exact h.elim
end Go.Proofs.YtgjokdngbocehaaGreatDoor
namespace Go.Proofs.YtgjokdngbocehaaGreatDoor
def cmpB (s:List UInt8) (c:Int) (t:List UInt8) (n:Int):Option Bool :=
 let xs:=runesOf (strL s)
 let ys:=runesOf (strL t)
 if c = 0 then some true
 else if c = 1 then some (decide (cmpL xs ys = 0))
 else if c = 2 then some (decide (cmpL xs ys ≠ 0))
 else if c = 3 then some (standsL xs ys 0)
 else if c = 4 then some (decide (ys.length ≤ xs.length) && standsL xs ys (xs.length - ys.length))
 else if c = 5 then some (decide (0 ≤ findL xs ys))
 else if c = 6 then some (decide ((xs.length:Int) = n))
 else if c = 7 then some (decide (n < (xs.length:Int)))
 else if c = 8 then some (decide ((xs.length:Int) < n))
 else none
theorem cmpB_none {s:List UInt8} {c:Int} {t:List UInt8} {n:Int} (h:c < 0 ∨ 8 < c):cmpB s c t n = none:=by
 unfold cmpB
 rw [if_neg (by omega),if_neg (by omega),if_neg (by omega),if_neg (by omega),if_neg (by omega),if_neg (by omega),if_neg (by omega),if_neg (by omega),if_neg (by omega)]
end Go.Proofs.YtgjokdngbocehaaGreatDoor
namespace Go.Proofs.YtgjokdngbocehaaGreatDoor
def goodTB (l:List UInt8):Bool:=Lib.validD l && !(decide (0 ≤ Lib.indexByte l 39) && decide (0 ≤ Lib.indexByte l 34))
def goodCB (c:Int) (t:List UInt8) (n:Int):Bool :=
 if c = 0 then t.isEmpty && n == 0
 else if 1 ≤ c ∧ c ≤ 5 then goodTB t && n == 0
 else if 6 ≤ c ∧ c ≤ 8 then t.isEmpty && decide (0 ≤ n) && decide (n ≤ 1000000)
 else false
def goodSB (g:PX → Bool) (s:PS):Bool :=
 (decide (0 ≤ s.axis) && decide (s.axis ≤ 3) && decide (0 ≤ s.test) && decide (s.test ≤ 3)) && (if s.test = 0 then nameB s.name else s.name.isEmpty) && s.wher.all g
def goodPB (g:PX → Bool) (ss:List PS):Bool:=!ss.isEmpty && ss.all (goodSB g)
def bareB (x:PX):Bool:=x.path.isEmpty && x.attr.isEmpty && x.cmp == 0 && x.text.isEmpty && x.num == 0
def goodXB:Nat → PX → Bool
 | 0,_=>false
 | f + 1,x =>
  if x.op = 3 then x.args.isEmpty && goodPB (goodXB f) x.path && (x.attr.isEmpty || nameB x.attr) && goodCB x.cmp x.text x.num
  else bareB x && (if x.op = 0 ∨ x.op = 1 then decide (2 ≤ x.args.length) else if x.op = 2 then decide (x.args.length = 1) else false) && x.args.all (goodXB f)
def brackB (whole part:Int):Bool:=(part == 1 && whole != 2) || (whole == 0 && part == 0)
def maxN (l:List Nat):Nat:=l.foldl max 0
theorem maxN_snoc (l:List Nat) (x:Nat):maxN (l ++ [x]) = max (maxN l) x:=by unfold maxN;rw [List.foldl_append];rfl
theorem maxN_le {l:List Nat} {B:Nat} (h:∀ x ∈ l,x ≤ B):maxN l ≤ B:=by
 unfold maxN
 have:∀ (l:List Nat) (a:Nat),a ≤ B → (∀ x ∈ l,x ≤ B) → l.foldl max a ≤ B:=by
  intro l
  induction l with
  | nil=>intro a ha _;exact ha
  | cons x l ih=>intro a ha hl;exact ih _ (Nat.max_le.2 ⟨ha,hl x List.mem_cons_self⟩) fun y hy=>hl y (List.mem_cons_of_mem _ hy)
 exact this l 0 (Nat.zero_le _) h
def deepPN (d:PX → Nat) (ss:List PS):Nat:=maxN (ss.map fun s=>maxN (s.wher.map fun x=>d x + 1))
def deepXN:Nat → PX → Nat
 | 0,_=>0
 | f + 1,x =>
  if x.op = 3 then deepPN (deepXN f) x.path + (if 3 ≤ x.cmp then 1 else 0)
  else if x.op = 2 then (match x.args with | []=>0 | y :: _=>deepXN f y + 1)
  else maxN (x.args.map fun y=>deepXN f y + (if brackB x.op y.op then 1 else 0))
theorem deepXN_le:∀ (f:Nat) (x:PX),deepXN f x ≤ 2 * f
 | 0,_=>Nat.zero_le _
 | f + 1,x=>by
  unfold deepXN
  split
  ·have:deepPN (deepXN f) x.path ≤ 2 * f + 1:=by
    refine maxN_le fun n hn=>?_
    obtain ⟨s,_,rfl⟩:=List.mem_map.1 hn
    refine maxN_le fun m hm=>?_
    obtain ⟨y,_,rfl⟩:=List.mem_map.1 hm
    have:=deepXN_le f y;omega
   split <;> omega
  ·split
   ·split
    ·omega
    ·rename_i y _ _;have:=deepXN_le f y;omega
   ·refine Nat.le_trans (maxN_le (B:=2 * f + 1) fun n hn=>?_) (by omega)
    obtain ⟨y,_,rfl⟩:=List.mem_map.1 hn
    have:=deepXN_le f y
    split <;> omega
def checkB (f:Nat) (ss:List PS):Bool:=goodPB (goodXB f) ss && decide (deepPN (deepXN f) ss ≤ 200)
def checkN (f:Nat) (ss:List PS):Int:=if checkB f ss then 0 else 6
end Go.Proofs.YtgjokdngbocehaaGreatDoor
namespace Go.Proofs.YtgjokdngbocehaaGreatDoor
open Go.RowKit
def seenI (t:Int):Int:=if 0 ≤ t ∧ t ≤ 2 then t else 1
def andL (l:List Int):Int:=l.foldl (fun a t=>min a (seenI t)) 2
def orL (l:List Int):Int:=l.foldl (fun a t=>max a (seenI t)) 0
def notI (t:Int):Int:=2 - seenI t
def truthI (b:Bool):Int:=if b then 2 else 0
def T3 (t:Int):Prop:=0 ≤ t ∧ t ≤ 2
theorem seenI_3 (t:Int):T3 (seenI t):=by unfold seenI T3;split <;> omega
theorem seenI_of {t:Int} (h:T3 t):seenI t = t:=if_pos h
theorem truthI_3 (b:Bool):T3 (truthI b):=by unfold truthI T3;cases b <;> decide
theorem andL_3 (l:List Int):T3 (andL l):=by
 have:∀ (l:List Int) (a:Int),T3 a → T3 (l.foldl (fun a t=>min a (seenI t)) a):=by
  intro l
  induction l with
  | nil=>intro a h;exact h
  | cons t l ih=>intro a h;exact ih _ (by show T3 (min a (seenI t));have:=seenI_3 t;unfold T3 at *;omega)
 exact this l 2 (by unfold T3;decide)
theorem orL_3 (l:List Int):T3 (orL l):=by
 have:∀ (l:List Int) (a:Int),T3 a → T3 (l.foldl (fun a t=>max a (seenI t)) a):=by
  intro l
  induction l with
  | nil=>intro a h;exact h
  | cons t l ih=>intro a h;exact ih _ (by show T3 (max a (seenI t));have:=seenI_3 t;unfold T3 at *;omega)
 exact this l 0 (by unfold T3;decide)
theorem andL_two {a b:Int} (ha:T3 a) (hb:T3 b):andL [a,b] = min a b:=by
 unfold andL
 simp only [List.foldl_cons,List.foldl_nil,seenI_of ha,seenI_of hb]
 unfold T3 at *;omega
theorem orL_two {a b:Int} (ha:T3 a) (hb:T3 b):orL [a,b] = max a b:=by
 unfold orL
 simp only [List.foldl_cons,List.foldl_nil,seenI_of ha,seenI_of hb]
 unfold T3 at *;omega
structure HN where
 ev:Ev
 kd:Int
 par:Int
 op:Bool
 txt:List UInt8
 bg:Nat
 en:Nat
def cmpT (v:List UInt8) (x:PX):Int:=truthI ((cmpB v x.cmp x.text x.num).getD false)
def testT (h:HN) (s:PS):Int :=
 if s.test = 0 then truthI (decide (h.kd = 1) && decide (h.ev.name = s.name)) else if s.test = 1 then truthI (decide (h.kd = 1)) else if s.test = 2 then truthI (decide (h.kd = 2)) else 2
def earlyT (v:List UInt8) (x:PX):Int :=
 let xs:=runesOf (strL v)
 let ys:=runesOf (strL x.text)
 if x.cmp = 0 then 2
 else if x.cmp = 1 then (if standsL ys xs 0 then 1 else 0)
 else if x.cmp = 2 then (if standsL ys xs 0 then 1 else 2)
 else if x.cmp = 3 then (if standsL xs ys 0 then 2 else if standsL ys xs 0 then 1 else 0)
 else if x.cmp = 5 then (if 0 ≤ findL xs ys then 2 else 1)
 else if x.cmp = 6 then (if x.num < (xs.length:Int) then 0 else 1)
 else if x.cmp = 7 then (if x.num < (xs.length:Int) then 2 else 1)
 else if x.cmp = 8 then (if x.num ≤ (xs.length:Int) then 0 else 1)
 else 1
def asksT (h:HN) (x:PX):Int :=
 if x.attr ≠ [] then (match h.ev.ats.find? fun p=>p.1 == x.attr with | none=>0 | some p=>cmpT p.2 x)
 else if h.op then earlyT h.txt x else cmpT h.txt x
def rowOf (n:Nat) (g:Nat → Int):List Int:=(List.range n).map g
theorem rowOf_len (n:Nat) (g:Nat → Int):(rowOf n g).length = n:=by simp [rowOf]
theorem rowOf_at (n:Nat) (g:Nat → Int) (k:Nat) (h:k < n):(rowOf n g)[k]? = some (g k):=by unfold rowOf;rw [List.getElem?_map,List.getElem?_range h];rfl
def R3 (l:List Int):Prop:=∀ t ∈ l,T3 t
theorem rowOf_3 (n:Nat) (g:Nat → Int) (h:∀ k,T3 (g k)):R3 (rowOf n g):=fun t ht=>by
 obtain ⟨k,_,rfl⟩:=List.mem_map.1 ht
 exact h k
theorem R3.at {l:List Int} (h:R3 l) (k:Nat):T3 (l.getD k 0):=by
 rw [List.getD_eq_getElem?_getD]
 cases hk:l[k]? with
 | none=>unfold T3;decide
 | some t=>exact h t (List.mem_of_getElem? hk)
def metT (ex:PX → List Int) (hs:List HN) (s:PS) (beside:List Int):List Int :=
 s.wher.foldl (fun out x=>rowOf hs.length fun k=>andL [out.getD k 0,(ex x).getD k 0]) (rowOf hs.length fun k=>andL [(hs[k]?.map fun h=>testT h s).getD 0,beside.getD k 0])
theorem metT_len (ex:PX → List Int) (hs:List HN) (s:PS) (b:List Int):(metT ex hs s b).length = hs.length:=by
 unfold metT
 have:∀ (l:List PX) (o:List Int),o.length = hs.length → (l.foldl (fun out x=>rowOf hs.length fun k=>andL [out.getD k 0,(ex x).getD k 0]) o).length = hs.length:=by
  intro l
  induction l with
  | nil=>intro o h;exact h
  | cons x l ih=>intro o h;exact ih _ (rowOf_len ..)
 exact this _ _ (rowOf_len ..)
theorem metT_3 (ex:PX → List Int) (hs:List HN) (s:PS) (b:List Int):R3 (metT ex hs s b):=by
 unfold metT
 have:∀ (l:List PX) (o:List Int),R3 o → R3 (l.foldl (fun out x=>rowOf hs.length fun k=>andL [out.getD k 0,(ex x).getD k 0]) o):=by
  intro l
  induction l with
  | nil=>intro o h;exact h
  | cons x l ih=>intro o h;exact ih _ (rowOf_3 _ _ fun k=>andL_3 _)
 exact this _ _ (rowOf_3 _ _ fun k=>andL_3 _)
def cdStep (hs:List HN) (here:List Int) (cd:List Int × List Int) (k:Nat):List Int × List Int :=
 let p:=((hs[k]?.map fun (h:HN)=>h.par).getD 0).toNat
 (cd.1.set p (orL [cd.1.getD p 0,here.getD k 0]),cd.2.set p (orL [cd.2.getD p 0,here.getD k 0,cd.2.getD k 0]))
def cdAll (hs:List HN) (here:List Int) (k:Nat):List Int × List Int :=
 ((List.range' k (hs.length - k)).reverse).foldl (cdStep hs here) (rowOf hs.length fun k=>if (hs[k]?.map fun (h:HN)=>h.op).getD false then 1 else 0,rowOf hs.length fun k=>if (hs[k]?.map fun (h:HN)=>h.op).getD false then 1 else 0)
theorem cdAll_end (hs:List HN) (here:List Int):cdAll hs here hs.length = (rowOf hs.length fun k=>if (hs[k]?.map fun (h:HN)=>h.op).getD false then 1 else 0,rowOf hs.length fun k=>if (hs[k]?.map fun (h:HN)=>h.op).getD false then 1 else 0):=by
 unfold cdAll;rw [Nat.sub_self];rfl
theorem cdAll_step (hs:List HN) (here:List Int) (k:Nat) (h:k < hs.length):cdAll hs here k = cdStep hs here (cdAll hs here (k + 1)) k:=by
 unfold cdAll
 rw [show hs.length - k = (hs.length - (k + 1)) + 1 by omega,List.range'_succ,List.reverse_cons,List.foldl_append]
 rfl
theorem R3.set {l:List Int} (h:R3 l) (p:Nat) {t:Int} (ht:T3 t):R3 (l.set p t):=fun u hu=>by
 rcases List.mem_or_eq_of_mem_set hu with h1 | h1
 ·exact h u h1
 ·rw [h1];exact ht
theorem cdAll_ok (hs:List HN) (here:List Int):∀ m k,k + m = hs.length → R3 (cdAll hs here k).1 ∧ R3 (cdAll hs here k).2 ∧ (cdAll hs here k).1.length = hs.length ∧ (cdAll hs here k).2.length = hs.length:=by
 intro m
 induction m with
 | zero =>
  intro k h
  have:k = hs.length:=by omega
  subst this
  rw [cdAll_end]
  have h3:∀ k:Nat,T3 (if (hs[k]?.map fun (h:HN)=>h.op).getD false then 1 else 0):=fun k=>by unfold T3;split <;> decide
  exact ⟨rowOf_3 _ _ h3,rowOf_3 _ _ h3,rowOf_len ..,rowOf_len ..⟩
 | succ m ih =>
  intro k h
  obtain ⟨h1,h2,h3,h4⟩:=ih (k + 1) (by omega)
  rw [cdAll_step hs here k (by omega)]
  exact ⟨h1.set _ (orL_3 _),h2.set _ (orL_3 _),by unfold cdStep;simp [h3],by unfold cdStep;simp [h4]⟩
def backT (ex:PX → List Int) (hs:List HN) (s:PS) (rest:List Int):List Int :=
 let here:=metT ex hs s rest
 if s.axis = 3 then here
 else if s.axis = 0 then (cdAll hs here 1).1
 else if s.axis = 2 then rowOf hs.length fun k=>orL [(cdAll hs here 1).2.getD k 0,here.getD k 0]
 else (cdAll hs here 1).2
def exprT (hs:List HN):Nat → PX → List Int
 | 0,_=>[]
 | f + 1,x =>
  if x.op = 3 then x.path.foldr (fun s out=>backT (exprT hs f) hs s out) (rowOf hs.length fun k=>(hs[k]?.map fun h=>asksT h x).getD 0)
  else rowOf hs.length fun k=>if x.op = 0 then andL (x.args.map fun y=>(exprT hs f y).getD k 0) else if x.op = 1 then orL (x.args.map fun y=>(exprT hs f y).getD k 0) else notI ((x.args.head?.map fun y=>(exprT hs f y).getD k 0).getD 0)
end Go.Proofs.YtgjokdngbocehaaGreatDoor
namespace Go.Proofs.YtgjokdngbocehaaGreatDoor
open Go.RowKit
def hRoot:HN:=⟨⟨0,0,0,[],[],[],0,0⟩,0,-1,true,[],0,0⟩
def topH (o:List Nat):Nat:=(o[o.length - 1]?).getD 0
def addT (t:List UInt8) (h:HN):HN:={ h with txt:=h.txt ++ t }
def endH (i:Nat) (h:HN):HN:={ h with op:=false,en:=i + 1 }
def hNext (N i:Nat) (st:List HN × List Nat) (e:Ev):List HN × List Nat :=
 if e.kind = 0 then (st.1 ++ [⟨e,1,topH st.2,true,[],i,N⟩],st.2 ++ [st.1.length])
 else if e.kind = 1 then (st.2.foldl (fun l k=>l.modify k (addT e.text)) (st.1 ++ [⟨e,2,topH st.2,false,e.text,i,i + 1⟩]),st.2)
 else (st.1.modify (topH st.2) (endH i),st.2.dropLast)
def hAll (N:Nat) (evs:List Ev) (k:Nat):List HN × List Nat:=(List.range k).foldl (fun st i=>match evs[i]? with | none=>st | some e=>hNext N i st e) ([hRoot],[0])
theorem hAll_zero (N:Nat) (evs:List Ev):hAll N evs 0 = ([hRoot],[0]):=rfl
theorem hAll_succ (N:Nat) (evs:List Ev) (k:Nat) (h:k < evs.length):hAll N evs (k + 1) = hNext N k (hAll N evs k) evs[k]:=by
 unfold hAll
 rw [List.range_succ,List.foldl_append]
 simp [List.getElem?_eq_getElem h]
def txS (evs:List Ev) (k:Nat):Nat:=((evs.take k).map fun e=>e.text.length).sum
theorem txS_succ (evs:List Ev) (k:Nat) (h:k < evs.length):txS evs (k + 1) = txS evs k + evs[k].text.length:=by
 unfold txS
 rw [List.take_succ_eq_append_getElem h,List.map_append,List.sum_append];simp
theorem txS_le (evs:List Ev) (k:Nat):txS evs k ≤ wtEs evs:=by
 unfold txS wtEs
 induction evs generalizing k with
 | nil=>simp
 | cons x r ih =>
  cases k with
  | zero=>simp
  | succ k=>simp only [List.take_succ_cons,List.map_cons,List.sum_cons];have:=ih k;have:x.text.length ≤ wtE x:=(by unfold wtE;omega);omega
structure HOk (N:Nat) (evs:List Ev) (k:Nat) (s:BegS) (st:List HN × List Nat):Prop where
 len:st.1.length ≤ k + 1
 pos:1 ≤ st.1.length
 opn:st.2.length = s.opn.length + 1
 lt:∀ p ∈ st.2,p < st.1.length
 par:∀ (i:Nat) (h:HN),st.1[i]? = some h → 1 ≤ i → 0 ≤ h.par ∧ h.par < (i:Int)
 txt:∀ h ∈ st.1,h.txt.length ≤ txS evs k
 ev:∀ h ∈ st.1,h.ev ∈ evs ∨ h.ev = hRoot.ev
 root:∀ h,st.1[0]? = some h → h.par = -1 ∧ h.kd = 0
 cnt:st.1.length = s.next.toNat + 1 ∧ 0 ≤ s.next
 nod:st.2.Nodup
theorem foldl_modify_len {α:Type} (f:α → α) (o:List Nat):∀ l:List α,(o.foldl (fun l k=>l.modify k f) l).length = l.length:=by
 induction o with
 | nil=>intro l;rfl
 | cons k o ih=>intro l;rw [List.foldl_cons,ih,List.length_modify]
theorem modify_get {α:Type} {f:α → α} {l:List α} {k i:Nat} {x:α} (h:(l.modify k f)[i]? = some x):∃ y,l[i]? = some y ∧ (x = y ∨ x = f y):=by
 rw [List.getElem?_modify] at h
 cases hy:l[i]? with
 | none=>rw [hy] at h;simp at h
 | some y =>
  rw [hy] at h
  refine ⟨y,rfl,?_⟩
  by_cases e:k = i
  ·simp [e] at h;exact .inr h.symm
  ·simp [e] at h;exact .inl h.symm
theorem topH_mem {o:List Nat} (h:1 ≤ o.length):topH o ∈ o:=by
 unfold topH
 rw [List.getElem?_eq_getElem (by omega)]
 exact List.getElem_mem _
theorem hAll_start (N:Nat) (evs:List Ev):HOk N evs 0 beg0 (hAll N evs 0):=by
 rw [hAll_zero]
 refine ⟨Nat.le_refl _,Nat.le_refl _,rfl,fun p hp=>?_,fun i h hi h1=>?_,fun h hh=>?_,fun h hh=>?_,fun h hh=>?_,⟨rfl,Int.le_refl _⟩,?_⟩
 ·have:p = 0:=by simpa using hp
  subst this;exact Nat.lt_succ_self _
 ·have:i < 1:=(List.getElem?_eq_some_iff.1 hi).1
  omega
 ·have:h = hRoot:=by simpa using hh
  subst this;exact Nat.zero_le _
 ·have:h = hRoot:=by simpa using hh
  subst this;exact .inr rfl
 ·obtain rfl:hRoot = h:=by simpa using hh
  exact ⟨rfl,rfl⟩
 ·exact List.nodup_cons.2 ⟨by simp,List.nodup_nil⟩
theorem foldl_modify_get {f:HN → HN} (hf:∀ h,(f h).par = h.par ∧ (f h).kd = h.kd ∧ (f h).ev = h.ev) (o:List Nat):∀ (l:List HN) (i:Nat) (h:HN),(o.foldl (fun l k=>l.modify k f) l)[i]? = some h → ∃ y,l[i]? = some y ∧ h.par = y.par ∧ h.kd = y.kd ∧ h.ev = y.ev:=by
 induction o with
 | nil=>intro l i h hi;exact ⟨h,hi,rfl,rfl,rfl⟩
 | cons k o ih =>
  intro l i h hi
  rw [List.foldl_cons] at hi
  obtain ⟨y,h1,h2,h3,h4⟩:=ih _ i h hi
  obtain ⟨z,g1,g2⟩:=modify_get h1
  refine ⟨z,g1,?_,?_,?_⟩
  ·rcases g2 with rfl | rfl
   ·exact h2
   ·exact h2.trans (hf z).1
  ·rcases g2 with rfl | rfl
   ·exact h3
   ·exact h3.trans (hf z).2.1
  ·rcases g2 with rfl | rfl
   ·exact h4
   ·exact h4.trans (hf z).2.2
theorem foldl_add_len (t:List UInt8) (B:Nat) (o:List Nat):o.Nodup → ∀ l:List HN,(∀ h ∈ l,h.txt.length ≤ B) → ∀ (i:Nat) (h:HN),(o.foldl (fun l k=>l.modify k (addT t)) l)[i]? = some h → h.txt.length ≤ B + t.length:=by
 intro hn l hl i h hi
 have key:∀ (o:List Nat),o.Nodup → ∀ l:List HN,(∀ h ∈ l,h.txt.length ≤ B + t.length) → (∀ k ∈ o,∀ h,l[k]? = some h → h.txt.length ≤ B) → ∀ h ∈ (o.foldl (fun l k=>l.modify k (addT t)) l),h.txt.length ≤ B + t.length:=by
  intro o
  induction o with
  | nil=>intro _ l h1 _ h hh;exact h1 h hh
  | cons k o ih =>
   intro hn l h1 h2 h hh
   rw [List.foldl_cons] at hh
   obtain ⟨hk,hn2⟩:=List.nodup_cons.1 hn
   refine ih hn2 (l.modify k (addT t)) (fun g hg=>?_) (fun q hq g hg=>?_) h hh
   ·obtain ⟨j,hj,rfl⟩:=List.getElem_of_mem hg
    have hj2:(l.modify k (addT t))[j]? = some (l.modify k (addT t))[j]:=List.getElem?_eq_getElem hj
    obtain ⟨y,g1,g2⟩:=modify_get hj2
    by_cases e:j = k
    ·subst e
     have h3:=h2 j List.mem_cons_self y g1
     rcases g2 with g2 | g2
     ·rw [g2];omega
     ·rw [g2];unfold addT;simp only [List.length_append];omega
    ·have h4:(l.modify k (addT t))[j]? = l[j]?:=by rw [List.getElem?_modify];cases l[j]? <;> simp [show ¬ k = j from fun h=>e h.symm]
     rw [hj2,g1] at h4
     rw [Option.some.inj h4]
     exact h1 y (List.mem_of_getElem? g1)
   ·have hqk:¬ k = q:=fun e=>hk (by rw [e];exact hq)
    have h4:(l.modify k (addT t))[q]? = l[q]?:=by rw [List.getElem?_modify];cases l[q]? <;> simp [hqk]
    rw [hg] at h4
    exact h2 q (List.mem_cons_of_mem _ hq) g h4.symm
 exact key o hn l (fun g hg=>Nat.le_trans (hl g hg) (Nat.le_add_right _ _)) (fun q _ g hg=>hl g (List.mem_of_getElem? hg)) h (List.mem_of_getElem? hi)
theorem foldl_mod_app {f:HN → HN} (o:List Nat):∀ (l m:List HN) (j:Nat),j < l.length → (o.foldl (fun l k=>l.modify k f) (l ++ m))[j]? = (o.foldl (fun l k=>l.modify k f) l)[j]?:=by
 induction o with
 | nil=>intro l m j hj;exact List.getElem?_append_left hj
 | cons k o ih =>
  intro l m j hj
  rw [List.foldl_cons,List.foldl_cons]
  rcases Nat.lt_or_ge k l.length with hk | hk
  ·have e:(l ++ m).modify k f = l.modify k f ++ m:=by
    refine List.ext_getElem? fun i=>?_
    rw [List.getElem?_modify]
    rcases Nat.lt_or_ge i l.length with hi | hi
    ·rw [List.getElem?_append_left hi,List.getElem?_append_left (by rw [List.length_modify];exact hi),List.getElem?_modify]
    ·rw [List.getElem?_append_right hi,List.getElem?_append_right (by rw [List.length_modify];exact hi),List.length_modify]
     cases m[i - l.length]? <;> simp [show ¬ k = i by omega]
   rw [e]
   exact ih _ _ j (by rw [List.length_modify];exact hj)
  ·have e:(l ++ m).modify k f = l ++ m.modify (k - l.length) f:=by
    refine List.ext_getElem? fun i=>?_
    rw [List.getElem?_modify]
    rcases Nat.lt_or_ge i l.length with hi | hi
    ·rw [List.getElem?_append_left hi,List.getElem?_append_left hi]
     cases l[i]? <;> simp [show ¬ k = i by omega]
    ·rw [List.getElem?_append_right hi,List.getElem?_append_right hi,List.getElem?_modify]
     cases m[i - l.length]? with
     | none=>simp
     | some x =>
      by_cases e:k = i
      ·subst e;simp
      ·simp [e,show ¬ k - l.length = i - l.length by omega]
   have e2:l.modify k f = l:=List.modify_eq_self hk
   rw [e,e2]
   exact ih _ _ j hj
theorem foldl_mod_last {f:HN → HN} (o:List Nat):∀ (l m:List HN),(∀ p ∈ o,p < l.length) → ∀ j,j = l.length → (o.foldl (fun l k=>l.modify k f) (l ++ m))[j]? = (l ++ m)[j]?:=by
 intro l m ho j hj
 have key:∀ (o:List Nat) (q:List HN),(∀ p ∈ o,p < j) → (o.foldl (fun l k=>l.modify k f) q)[j]? = q[j]?:=by
  intro o
  induction o with
  | nil=>intro q _;rfl
  | cons k o ih =>
   intro q h
   rw [List.foldl_cons,ih _ fun p hp=>h p (List.mem_cons_of_mem _ hp),List.getElem?_modify]
   have:=h k List.mem_cons_self
   cases q[j]? <;> simp [show ¬ k = j by omega]
 exact key o _ fun p hp=>by rw [hj];exact ho p hp
theorem HOk.step {N:Nat} {evs:List Ev} {k:Nat} {s:BegS} {st:List HN × List Nat} {e:Ev} (h:HOk N evs k s st) (he:begOk s e = true) (hk:k < evs.length) (hek:evs[k] = e):HOk N evs (k + 1) (begNext s e) (hNext N k st e):=by
 obtain ⟨h1,h2,h3,h4,h5,h6,h7,h8,h9,h10⟩:=h
 have htx:=txS_succ evs k hk
 rw [hek] at htx
 have hmem:e ∈ evs:=by rw [← hek];exact List.getElem_mem hk
 have htop:=h4 _ (topH_mem (by omega:1 ≤ st.2.length))
 by_cases k2:e.kind = 2
 ·have hhd:=begOk_close he k2
  obtain ⟨rest,hr⟩:∃ rest,s.opn = (e.num,e.dep,e.name) :: rest:=by
   cases ho:s.opn with
   | nil=>rw [ho] at hhd;cases hhd
   | cons a r=>rw [ho] at hhd;simp at hhd;exact ⟨r,by rw [hhd]⟩
  have e1:hNext N k st e = (st.1.modify (topH st.2) (endH k),st.2.dropLast):=by unfold hNext;rw [if_neg (by omega),if_neg (by omega)]
  have e2:(begNext s e).opn = rest:=by unfold begNext;simp [k2,hr]
  have e3:(begNext s e).next = s.next:=by unfold begNext;simp [k2]
  rw [e1]
  have hsub:∀ p ∈ st.2.dropLast,p ∈ st.2:=fun p hp=>(List.dropLast_sublist st.2).subset hp
  refine ⟨by simp;omega,by simp;omega,by rw [e2];simp [h3,hr],fun p hp=>by rw [List.length_modify];exact h4 p (hsub p hp),fun i g hg hi=>?_,fun g hg=>?_,fun g hg=>?_,fun g hg=>?_,by rw [e3,List.length_modify];exact h9,(List.dropLast_sublist _).nodup h10⟩
  ·obtain ⟨y,q1,q2⟩:=modify_get hg
   have:=h5 i y q1 hi
   rcases q2 with rfl | rfl
   ·exact this
   ·exact this
  ·obtain ⟨j,hj,rfl⟩:=List.getElem_of_mem hg
   obtain ⟨y,q1,q2⟩:=modify_get (List.getElem?_eq_getElem hj)
   have:=h6 y (List.mem_of_getElem? q1)
   rcases q2 with q2 | q2
   ·rw [q2];omega
   ·rw [q2];show y.txt.length ≤ _;omega
  ·obtain ⟨j,hj,rfl⟩:=List.getElem_of_mem hg
   obtain ⟨y,q1,q2⟩:=modify_get (List.getElem?_eq_getElem hj)
   have:=h7 y (List.mem_of_getElem? q1)
   rcases q2 with q2 | q2
   ·rw [q2];exact this
   ·rw [q2];exact this
  ·obtain ⟨y,q1,q2⟩:=modify_get hg
   have:=h8 y q1
   rcases q2 with rfl | rfl
   ·exact this
   ·exact this
 obtain ⟨hnum,h01⟩:=begOk_new he k2
 have e3:(begNext s e).next = s.next + 1:=by unfold begNext;simp [k2]
 rcases h01 with k0 | k1
 ·have e1:hNext N k st e = (st.1 ++ [⟨e,1,topH st.2,true,[],k,N⟩],st.2 ++ [st.1.length]):=by unfold hNext;rw [if_pos k0]
  have e2:(begNext s e).opn = (e.num,e.dep,e.name) :: s.opn:=by unfold begNext;simp [k0]
  rw [e1]
  refine ⟨by simp;omega,by simp,by rw [e2];simp [h3],fun p hp=>?_,fun i g hg hi=>?_,fun g hg=>?_,fun g hg=>?_,fun g hg=>?_,by rw [e3];simp;omega,?_⟩
  ·rw [List.length_append,List.length_singleton]
   rcases List.mem_append.1 hp with hp | hp
   ·have:=h4 p hp;omega
   ·have:p = st.1.length:=by simpa using hp
    omega
  ·rcases snoc_get hg with ⟨_,hg⟩ | ⟨hi2,rfl⟩
   ·exact h5 i g hg hi
   ·show (0:Int) ≤ (topH st.2:Int) ∧ (topH st.2:Int) < (i:Int);omega
  ·rcases List.mem_append.1 hg with hg | hg
   ·have:=h6 g hg;omega
   ·obtain rfl:=List.mem_singleton.1 hg
    exact Nat.zero_le _
  ·rcases List.mem_append.1 hg with hg | hg
   ·exact h7 g hg
   ·obtain rfl:=List.mem_singleton.1 hg
    exact .inl hmem
  ·rcases snoc_get hg with ⟨_,hg⟩ | ⟨hi2,_⟩
   ·exact h8 g hg
   ·omega
  ·refine List.nodup_append.2 ⟨h10,List.nodup_cons.2 ⟨by simp,List.nodup_nil⟩,fun a ha b hb=>?_⟩
   have:b = st.1.length:=by simpa using hb
   have:=h4 a ha
   omega
 ·have e1:hNext N k st e = (st.2.foldl (fun l k=>l.modify k (addT e.text)) (st.1 ++ [⟨e,2,topH st.2,false,e.text,k,k + 1⟩]),st.2):=by unfold hNext;rw [if_neg (by omega),if_pos k1]
  have e2:(begNext s e).opn = s.opn:=by unfold begNext;simp [k1]
  rw [e1]
  have hl:(st.2.foldl (fun l k=>l.modify k (addT e.text)) (st.1 ++ [(⟨e,2,topH st.2,false,e.text,k,k + 1⟩:HN)])).length = st.1.length + 1:=by rw [foldl_modify_len];simp
  have hf:∀ h,(addT e.text h).par = h.par ∧ (addT e.text h).kd = h.kd ∧ (addT e.text h).ev = h.ev:=fun h=>⟨rfl,rfl,rfl⟩
  refine ⟨by rw [hl];omega,by rw [hl];omega,by rw [e2];exact h3,fun p hp=>by rw [hl];have:=h4 p hp;omega,fun i g hg hi=>?_,fun g hg=>?_,fun g hg=>?_,fun g hg=>?_,by rw [e3,hl];omega,h10⟩
  ·obtain ⟨y,q1,q2,_,_⟩:=foldl_modify_get hf _ _ _ _ hg
   rw [q2]
   rcases snoc_get q1 with ⟨_,hy⟩ | ⟨hi2,rfl⟩
   ·exact h5 i y hy hi
   ·show (0:Int) ≤ (topH st.2:Int) ∧ (topH st.2:Int) < (i:Int);omega
  ·obtain ⟨j,hj,rfl⟩:=List.getElem_of_mem hg
   rw [htx]
   have hj2:=List.getElem?_eq_getElem hj
   have hj3:j < st.1.length + 1:=by rw [← hl];exact hj
   rcases Nat.lt_or_ge j st.1.length with hjl | hjl
   ·refine foldl_add_len e.text (txS evs k) st.2 h10 st.1 h6 j _ ?_
    rw [← hj2,foldl_mod_app _ _ _ _ hjl]
   ·have hje:j = st.1.length:=by omega
    subst hje
    rw [foldl_mod_last st.2 st.1 _ h4 _ rfl,List.getElem?_append_right (Nat.le_refl _),Nat.sub_self] at hj2
    rw [← Option.some.inj hj2]
    show e.text.length ≤ _
    omega
  ·obtain ⟨j,hj,rfl⟩:=List.getElem_of_mem hg
   obtain ⟨y,q1,_,_,q4⟩:=foldl_modify_get hf _ _ _ _ (List.getElem?_eq_getElem hj)
   rw [q4]
   rcases snoc_get q1 with ⟨_,hy⟩ | ⟨_,rfl⟩
   ·exact h7 y (List.mem_of_getElem? hy)
   ·exact .inl hmem
  ·obtain ⟨y,q1,q2,q3,_⟩:=foldl_modify_get hf _ _ _ _ hg
   rw [q2,q3]
   rcases snoc_get q1 with ⟨_,hy⟩ | ⟨hi2,_⟩
   ·exact h8 y hy
   ·omega
theorem HOk.all (N:Nat) (evs:List Ev):∀ k,k ≤ evs.length → ∀ s,begAll beg0 (evs.take k) = some s → HOk N evs k s (hAll N evs k):=by
 intro k
 induction k with
 | zero =>
  intro _ s hs
  rw [List.take_zero] at hs
  obtain rfl:beg0 = s:=Option.some.inj hs
  exact hAll_start N evs
 | succ k ih =>
  intro hk s hs
  have hkl:k < evs.length:=by omega
  rw [List.take_succ_eq_append_getElem hkl,begAll_snoc] at hs
  cases ht:begAll beg0 (evs.take k) with
  | none=>rw [ht] at hs;cases hs
  | some t =>
   rw [ht] at hs
   simp only [Option.bind_some] at hs
   split at hs
   ·rename_i hok
    obtain rfl:=Option.some.inj hs
    rw [hAll_succ N evs k hkl]
    exact (ih (by omega) t ht).step hok hkl rfl
   ·cases hs
end Go.Proofs.YtgjokdngbocehaaGreatDoor
