/-
  Paths and expressions in memory, down to a depth; what they mean, by sets of nodes as rows of booleans, node n at n + 1.
-/
import Derived.Lib.DecodeN
import Derived.Laws.Cover4
import Derived.Lib.LaidTab
import Derived.ProofKit
import Derived.OpenShut
import Derived.Lib.ValidLaws
import Derived.Test.YtgjokdngbocehaaGreatDoorHtA
import Derived.Test.YtgjokdngbocehaaGreatDoorHtD
namespace Go.Proofs.YtgjokdngbocehaaGreatDoor
open Go.RowKit
mutual
inductive PX where
 | mk (op:Int) (args:List PX) (path:List PS) (attr:List UInt8) (cmp:Int) (text:List UInt8) (num:Int):PX
inductive PS where
 | mk (axis test:Int) (name:List UInt8) (wher:List PX):PS
end
def PX.op:PX → Int | .mk o _ _ _ _ _ _=>o
def PX.args:PX → List PX | .mk _ a _ _ _ _ _=>a
def PX.path:PX → List PS | .mk _ _ p _ _ _ _=>p
def PX.attr:PX → List UInt8 | .mk _ _ _ a _ _ _=>a
def PX.cmp:PX → Int | .mk _ _ _ _ c _ _=>c
def PX.text:PX → List UInt8 | .mk _ _ _ _ _ t _=>t
def PX.num:PX → Int | .mk _ _ _ _ _ _ n=>n
def PS.axis:PS → Int | .mk a _ _ _=>a
def PS.test:PS → Int | .mk _ t _ _=>t
def PS.name:PS → List UInt8 | .mk _ _ n _=>n
def PS.wher:PS → List PX | .mk _ _ _ w=>w
def W64 (x:Int):Prop:=-9223372036854775808 ≤ x ∧ x ≤ 9223372036854775807
def RowP {α:Type} (P:World → α → List Value → Prop) (k:Nat) (w:World) (a:Option Addr) (l:List α):Prop :=
 ∀ i,(h:i < l.length) → ∃ b o cs,a = some ⟨b,o,none⟩ ∧ b < w.heap.size ∧ cs.length = k ∧ (∀ j,j < k → w.cell? ⟨b,o + i * k + j,none⟩ = cs[j]?) ∧ P w l[i] cs
def StepAt (P:World → PX → List Value → Prop) (w:World) (s:PS) (cs:List Value):Prop :=
 ∃ a c,cs = [.int .i64 s.axis,.int .i64 s.test,.string (strL s.name),.slice a s.wher.length c] ∧ s.wher.length ≤ c ∧ W64 s.axis ∧ W64 s.test ∧ s.name.length ≤ 1048576 ∧ s.wher.length ≤ 1048576 ∧ RowP P 7 w a s.wher
def XAt:Nat → World → PX → List Value → Prop
 | 0,_,_,_=>False
 | f + 1,w,x,cs=>∃ a c p d,cs = [.int .i64 x.op,.slice a x.args.length c,.slice p x.path.length d,.string (strL x.attr),.int .i64 x.cmp,.string (strL x.text),.int .i64 x.num] ∧
   x.args.length ≤ c ∧ x.path.length ≤ d ∧ W64 x.op ∧ W64 x.cmp ∧ W64 x.num ∧ x.attr.length ≤ 1048576 ∧ x.text.length ≤ 1048576 ∧ x.args.length ≤ 1048576 ∧ x.path.length ≤ 1048576 ∧
   RowP (XAt f) 7 w a x.args ∧ RowP (StepAt (XAt f)) 4 w p x.path
def SsAt (f:Nat) (w:World) (a:Option Addr) (l:List PS):Prop:=RowP (StepAt (XAt f)) 4 w a l
def XsAt (f:Nat) (w:World) (a:Option Addr) (l:List PX):Prop:=RowP (XAt f) 7 w a l
theorem RowP.turn {α:Type} {P Q:World → α → List Value → Prop} {k:Nat} {w w':World} {a:Option Addr} {l:List α} (h:RowP P k w a l) (hb:Below w.heap.size w w')
  (hPQ:∀ x ∈ l,∀ cs,P w x cs → Q w' x cs):RowP Q k w' a l:=fun i hi=>by
 obtain ⟨b,o,cs,h1,h2,h3,h4,h5⟩:=h i hi
 exact ⟨b,o,cs,h1,Nat.lt_of_lt_of_le h2 hb.size,h3,fun j hj=>(hb.cell (p:=⟨b,o + i * k + j,none⟩) h2).trans (h4 j hj),hPQ _ (List.getElem_mem hi) cs h5⟩
theorem StepAt.turn {P Q:World → PX → List Value → Prop} {w w':World} {s:PS} {cs:List Value} (h:StepAt P w s cs) (hb:Below w.heap.size w w') (hPQ:∀ x cs,P w x cs → Q w' x cs):StepAt Q w' s cs:=by
 obtain ⟨a,c,h1,h2,h3,h4,h5,h6,h7⟩:=h
 exact ⟨a,c,h1,h2,h3,h4,h5,h6,h7.turn hb fun x _ cs=>hPQ x cs⟩
theorem XAt.turn {w w':World} (hb:Below w.heap.size w w'):∀ {f g:Nat} {x:PX} {cs:List Value},f ≤ g → XAt f w x cs → XAt g w' x cs
 | 0,_,_,_,_,h=>h.elim
 | _ + 1,0,_,_,hfg,_=>absurd hfg (Nat.not_succ_le_zero _)
 | _ + 1,_ + 1,_,_,hfg,⟨a,c,p,d,h1,h2,h3,h4,h5,h6,h7,h8,h9,h10,h11,h12⟩ =>
  ⟨a,c,p,d,h1,h2,h3,h4,h5,h6,h7,h8,h9,h10,h11.turn hb fun _ _ _=>XAt.turn hb (Nat.le_of_succ_le_succ hfg),h12.turn hb fun _ _ _ h=>h.turn hb fun _ _=>XAt.turn hb (Nat.le_of_succ_le_succ hfg)⟩
theorem XsAt.turn {f g:Nat} {w w':World} {a:Option Addr} {l:List PX} (h:XsAt f w a l) (hb:Below w.heap.size w w') (hfg:f ≤ g):XsAt g w' a l:=RowP.turn h hb fun _ _ _=>XAt.turn hb hfg
theorem SsAt.turn {f g:Nat} {w w':World} {a:Option Addr} {l:List PS} (h:SsAt f w a l) (hb:Below w.heap.size w w') (hfg:f ≤ g):SsAt g w' a l:=RowP.turn h hb fun _ _ _ h=>h.turn hb fun _ _=>XAt.turn hb hfg
theorem XsAt.below {f:Nat} {w w':World} {a:Option Addr} {l:List PX} (h:XsAt f w a l) (hb:Below w.heap.size w w'):XsAt f w' a l:=h.turn hb (Nat.le_refl _)
theorem SsAt.below {f:Nat} {w w':World} {a:Option Addr} {l:List PS} (h:SsAt f w a l) (hb:Below w.heap.size w w'):SsAt f w' a l:=h.turn hb (Nat.le_refl _)
theorem RowP.nil {α:Type} (P:World → α → List Value → Prop) (k:Nat) (w:World) (a:Option Addr):RowP P k w a []:=fun _ h=>absurd h (Nat.not_lt_zero _)
theorem SsAt.get {f:Nat} {w:World} {a:Option Addr} {l:List PS} (h:SsAt f w a l) (i:Nat) (hi:i < l.length) :
  ∃ b o wa wc,a = some ⟨b,o,none⟩ ∧ b < w.heap.size ∧ XsAt f w wa l[i].wher ∧ l[i].wher.length ≤ wc ∧ W64 l[i].axis ∧ W64 l[i].test ∧ l[i].name.length ≤ 1048576 ∧ l[i].wher.length ≤ 1048576 ∧
   ∀ W,Below w.heap.size w W → W.cell? ⟨b,o + i * 4,none⟩ = some (.int .i64 l[i].axis) ∧ W.cell? ⟨b,o + i * 4 + 1,none⟩ = some (.int .i64 l[i].test) ∧ W.cell? ⟨b,o + i * 4 + 2,none⟩ = some (.string (strL l[i].name)) ∧
    W.cell? ⟨b,o + i * 4 + 3,none⟩ = some (.slice wa l[i].wher.length wc):=by
 obtain ⟨b,o,cs,h1,h2,h3,h4,wa,wc,h5,h6,h7,h8,h9,h10,h11⟩:=h i hi
 refine ⟨b,o,wa,wc,h1,h2,h11,h6,h7,h8,h9,h10,fun W hW=>?_⟩
 have k:=fun j (hj:j < 4)=>(hW.cell (p:=⟨b,o + i * 4 + j,none⟩) h2).trans (h4 j hj)
 rw [h5] at k
 exact ⟨k 0 (by decide),k 1 (by decide),k 2 (by decide),k 3 (by decide)⟩
theorem XsAt.get {f:Nat} {w:World} {a:Option Addr} {l:List PX} (h:XsAt (f + 1) w a l) (i:Nat) (hi:i < l.length) :
  ∃ b o aa ac pa pc,a = some ⟨b,o,none⟩ ∧ b < w.heap.size ∧ XsAt f w aa l[i].args ∧ SsAt f w pa l[i].path ∧ l[i].args.length ≤ ac ∧ l[i].path.length ≤ pc ∧ W64 l[i].op ∧ W64 l[i].cmp ∧ W64 l[i].num ∧
   l[i].attr.length ≤ 1048576 ∧ l[i].text.length ≤ 1048576 ∧ l[i].args.length ≤ 1048576 ∧ l[i].path.length ≤ 1048576 ∧
   ∀ W,Below w.heap.size w W → W.cell? ⟨b,o + i * 7,none⟩ = some (.int .i64 l[i].op) ∧ W.cell? ⟨b,o + i * 7 + 1,none⟩ = some (.slice aa l[i].args.length ac) ∧ W.cell? ⟨b,o + i * 7 + 2,none⟩ = some (.slice pa l[i].path.length pc) ∧
    W.cell? ⟨b,o + i * 7 + 3,none⟩ = some (.string (strL l[i].attr)) ∧ W.cell? ⟨b,o + i * 7 + 4,none⟩ = some (.int .i64 l[i].cmp) ∧ W.cell? ⟨b,o + i * 7 + 5,none⟩ = some (.string (strL l[i].text)) ∧
    W.cell? ⟨b,o + i * 7 + 6,none⟩ = some (.int .i64 l[i].num):=by
 obtain ⟨b,o,cs,h1,h2,h3,h4,aa,ac,pa,pc,h5,h6,h7,h8,h9,h10,h11,h12,h13,h14,h15,h16⟩:=h i hi
 refine ⟨b,o,aa,ac,pa,pc,h1,h2,h15,h16,h6,h7,h8,h9,h10,h11,h12,h13,h14,fun W hW=>?_⟩
 have k:=fun j (hj:j < 7)=>(hW.cell (p:=⟨b,o + i * 7 + j,none⟩) h2).trans (h4 j hj)
 rw [h5] at k
 exact ⟨k 0 (by decide),k 1 (by decide),k 2 (by decide),k 3 (by decide),k 4 (by decide),k 5 (by decide),k 6 (by decide)⟩
def stepC (s:PS) (wa:Option Addr) (wc:Nat):List Value:=[.int .i64 s.axis,.int .i64 s.test,.string (strL s.name),.slice wa s.wher.length wc]
def exprC (x:PX) (aa:Option Addr) (ac:Nat) (pa:Option Addr) (pc:Nat):List Value :=
 [.int .i64 x.op,.slice aa x.args.length ac,.slice pa x.path.length pc,.string (strL x.attr),.int .i64 x.cmp,.string (strL x.text),.int .i64 x.num]
theorem SsAt.get' {f:Nat} {w:World} {a:Option Addr} {l:List PS} (h:SsAt f w a l) (i:Nat) (hi:i < l.length) :
  ∃ b o wa wc,a = some ⟨b,o,none⟩ ∧ b < w.heap.size ∧ StepAt (XAt f) w l[i] (stepC l[i] wa wc) ∧
   ∀ W,Below w.heap.size w W → W.cell? ⟨b,o + i * 4,none⟩ = some (.int .i64 l[i].axis) ∧ W.cell? ⟨b,o + i * 4 + 1,none⟩ = some (.int .i64 l[i].test) ∧ W.cell? ⟨b,o + i * 4 + 2,none⟩ = some (.string (strL l[i].name)) ∧
    W.cell? ⟨b,o + i * 4 + 3,none⟩ = some (.slice wa l[i].wher.length wc):=by
 obtain ⟨b,o,cs,h1,h2,h3,h4,wa,wc,h5,h6,h7,h8,h9,h10,h11⟩:=h i hi
 refine ⟨b,o,wa,wc,h1,h2,⟨wa,wc,rfl,h6,h7,h8,h9,h10,h11⟩,fun W hW=>?_⟩
 have k:=fun j (hj:j < 4)=>(hW.cell (p:=⟨b,o + i * 4 + j,none⟩) h2).trans (h4 j hj)
 rw [h5] at k
 exact ⟨k 0 (by decide),k 1 (by decide),k 2 (by decide),k 3 (by decide)⟩
theorem XsAt.get' {f:Nat} {w:World} {a:Option Addr} {l:List PX} (h:XsAt f w a l) (i:Nat) (hi:i < l.length) :
  ∃ b o aa ac pa pc,a = some ⟨b,o,none⟩ ∧ b < w.heap.size ∧ XAt f w l[i] (exprC l[i] aa ac pa pc) ∧
   ∀ W,Below w.heap.size w W → W.cell? ⟨b,o + i * 7,none⟩ = some (.int .i64 l[i].op) ∧ W.cell? ⟨b,o + i * 7 + 1,none⟩ = some (.slice aa l[i].args.length ac) ∧ W.cell? ⟨b,o + i * 7 + 2,none⟩ = some (.slice pa l[i].path.length pc) ∧
    W.cell? ⟨b,o + i * 7 + 3,none⟩ = some (.string (strL l[i].attr)) ∧ W.cell? ⟨b,o + i * 7 + 4,none⟩ = some (.int .i64 l[i].cmp) ∧ W.cell? ⟨b,o + i * 7 + 5,none⟩ = some (.string (strL l[i].text)) ∧
    W.cell? ⟨b,o + i * 7 + 6,none⟩ = some (.int .i64 l[i].num):=by
 cases f with
 | zero=>obtain ⟨_,_,_,_,_,_,_,h⟩:=h i hi;exact h.elim
 | succ f =>
  obtain ⟨b,o,cs,h1,h2,h3,h4,aa,ac,pa,pc,h5,hr⟩:=h i hi
  refine ⟨b,o,aa,ac,pa,pc,h1,h2,⟨aa,ac,pa,pc,rfl,hr⟩,fun W hW=>?_⟩
  have k:=fun j (hj:j < 7)=>(hW.cell (p:=⟨b,o + i * 7 + j,none⟩) h2).trans (h4 j hj)
  rw [h5] at k
  exact ⟨k 0 (by decide),k 1 (by decide),k 2 (by decide),k 3 (by decide),k 4 (by decide),k 5 (by decide),k 6 (by decide)⟩
theorem XsAt.zero {w:World} {a:Option Addr} {l:List PX} (h:XsAt 0 w a l):l = []:=by
 cases l with
 | nil=>rfl
 | cons x l=>obtain ⟨_,_,_,_,_,_,_,h⟩:=h 0 (by simp);exact h.elim
end Go.Proofs.YtgjokdngbocehaaGreatDoor
namespace Go.Proofs.YtgjokdngbocehaaGreatDoor
def cmpB (s:List UInt8) (c:Int) (t:List UInt8) (n:Int):Option Bool :=
 let xs:=runesOf (strL s)
 let ys:=runesOf (strL t)
 if c = 0 then some true
 else if c = 1 then some (decide (cmpL xs ys = 0))
 else if c = 2 then some (decide (cmpL xs ys ≠ 0))
 else if c = 3 then some (standsL xs ys 0)
 else if c = 4 then some (decide (ys.length ≤ xs.length) && standsL xs ys (xs.length - ys.length))
 else if c = 5 then some (decide (0 ≤ findL xs ys))
 else if c = 6 then some (decide ((xs.length:Int) = n))
 else if c = 7 then some (decide (n < (xs.length:Int)))
 else if c = 8 then some (decide ((xs.length:Int) < n))
 else none
theorem cmpB_none {s:List UInt8} {c:Int} {t:List UInt8} {n:Int} (h:c < 0 ∨ 8 < c):cmpB s c t n = none:=by
 unfold cmpB
 rw [if_neg (by omega),if_neg (by omega),if_neg (by omega),if_neg (by omega),if_neg (by omega),if_neg (by omega),if_neg (by omega),if_neg (by omega),if_neg (by omega)]
end Go.Proofs.YtgjokdngbocehaaGreatDoor
namespace Go.Proofs.YtgjokdngbocehaaGreatDoor
def chr (r:Nat):Prop:=r < 55296 ∨ (57344 ≤ r ∧ r ≤ 1114111)
def encN (r:Nat):List Nat :=
 if r < 128 then [r]
 else if r < 2048 then [192 + r / 64,128 + r % 64]
 else if r < 65536 then [224 + r / 4096,128 + r / 64 % 64,128 + r % 64]
 else [240 + r / 262144,128 + r / 4096 % 64,128 + r / 64 % 64,128 + r % 64]
def natLess:List Nat → List Nat → Bool
 | _,[]=>false
 | [],_ :: _=>true
 | a :: x,b :: y=>decide (a < b) || (a == b && natLess x y)
theorem bytesLess_nat:∀ l m:List UInt8,Op.bytesLess l m = natLess (l.map UInt8.toNat) (m.map UInt8.toNat)
 | _,[]=>by unfold Op.bytesLess;simp [natLess]
 | [],b :: y=>by simp [Op.bytesLess,natLess]
 | a :: x,b :: y=>by
  simp only [Op.bytesLess,List.map_cons,natLess,bytesLess_nat x y]
  congr 1
  have:(a == b) = (a.toNat == b.toNat):=by rw [Bool.eq_iff_iff];simp [UInt8.toNat_inj]
  rw [this]
theorem natLess_app (p x y:List Nat):natLess (p ++ x) (p ++ y) = natLess x y:=by
 induction p with
 | nil=>rfl
 | cons a p ih=>simp [natLess,ih]
set_option maxHeartbeats 1000000 in
theorem encN_lt (r q:Nat) (x y:List Nat) (h:r < q):natLess (encN r ++ x) (encN q ++ y) = true:=by
 unfold encN
 repeat' split
 all_goals (try (exfalso;omega))
 all_goals simp only [List.cons_append,List.nil_append,natLess,Bool.or_eq_true,Bool.and_eq_true,decide_eq_true_eq,beq_iff_eq]
 all_goals omega
set_option maxHeartbeats 1000000 in
theorem encN_gt (r q:Nat) (x y:List Nat) (h:r < q):natLess (encN q ++ y) (encN r ++ x) = false:=by
 unfold encN
 repeat' split
 all_goals (try (exfalso;omega))
 all_goals simp only [List.cons_append,List.nil_append,natLess,Bool.or_eq_false_iff,Bool.and_eq_false_iff,decide_eq_false_iff_not,beq_eq_false_iff_ne]
 all_goals omega
def bytesN (s:ByteArray) (p:Nat):List Nat:=(s.data.toList.drop p).map UInt8.toNat
theorem len_data (s:ByteArray):s.data.toList.length = s.size:=by rw [Array.length_toList];rfl
theorem get_nat (s:ByteArray) (p:Nat) (h:p < s.size):(bytesN s p) = (s.get! p).toNat :: bytesN s (p + 1):=by
 have hl:p < s.data.toList.length:=by rw [len_data];exact h
 unfold bytesN
 rw [List.drop_eq_getElem_cons hl,List.map_cons]
 have e:s.get! p = s.data.toList[p]:=by
  rw [show s.get! p = s.get! (p + 0) by rfl,get_at s p h]
  rfl
 rw [e]
theorem bytesN_end (s:ByteArray) (p:Nat) (h:¬ p < s.size):bytesN s p = []:=by
 unfold bytesN
 rw [List.drop_of_length_le (by rw [len_data];omega)]
 rfl
theorem byte_lt (s:ByteArray) (p:Nat):(s.get! p).toNat < 256:=(s.get! p).toNat_lt
set_option maxHeartbeats 2000000 in
theorem decode_good (s:ByteArray) (p:Nat) (h:p < s.size) (hg:¬ ((Utf8.decode s p).1 = 65533 ∧ (Utf8.decode s p).2 = 1)) :
  chr (Utf8.decode s p).1 ∧ bytesN s p = encN (Utf8.decode s p).1 ++ bytesN s (p + (Utf8.decode s p).2):=by
 have h0:=byte_lt s p
 have h1:=byte_lt s (p + 1)
 have h2:=byte_lt s (p + 2)
 have h3:=byte_lt s (p + 3)
 have g0:=get_nat s p h
 have g1:=get_nat s (p + 1)
 have g2:=get_nat s (p + 2)
 have g3:=get_nat s (p + 3)
 rw [Lib.decode_at] at hg ⊢
 generalize (s.get! p).toNat = b0 at *
 generalize (s.get! (p + 1)).toNat = b1 at *
 generalize (s.get! (p + 2)).toNat = b2 at *
 generalize (s.get! (p + 3)).toNat = b3 at *
 unfold Lib.decodeN at hg ⊢
 unfold chr
 split
 ·refine ⟨by simp only;omega,?_⟩
  simp only [encN]
  rw [if_pos (by assumption),g0]
  rfl
 ·split
  ·split
   ·refine ⟨by simp only;omega,?_⟩
    simp only [encN]
    rw [if_neg (by omega),if_pos (by omega),g0,g1 (by omega)]
    simp only [List.cons_append,List.nil_append,List.cons.injEq]
    exact ⟨by omega,by omega,trivial⟩
   ·rename_i a b c;rw [if_neg a,if_pos b,if_neg c] at hg;simp at hg
  ·split
   ·split
    ·refine ⟨by simp only;omega,?_⟩
     simp only [encN]
     rw [if_neg (by omega),if_neg (by omega),if_pos (by omega),g0,g1 (by omega),g2 (by omega)]
     simp only [List.cons_append,List.nil_append,List.cons.injEq]
     exact ⟨by omega,by omega,by omega,trivial⟩
    ·rename_i a b c d;rw [if_neg a,if_neg b,if_pos c,if_neg d] at hg;simp at hg
   ·split
    ·split
     ·refine ⟨by simp only;omega,?_⟩
      simp only [encN]
      rw [if_neg (by omega),if_neg (by omega),if_neg (by omega),g0,g1 (by omega),g2 (by omega),g3 (by omega)]
      simp only [List.cons_append,List.nil_append,List.cons.injEq]
      exact ⟨by omega,by omega,by omega,by omega,trivial⟩
     ·rename_i a b c d e;rw [if_neg a,if_neg b,if_neg c,if_pos d,if_neg e] at hg;simp at hg
    ·rename_i a b c d;rw [if_neg a,if_neg b,if_neg c,if_neg d] at hg;simp at hg
end Go.Proofs.YtgjokdngbocehaaGreatDoor
namespace Go.Proofs.YtgjokdngbocehaaGreatDoor
open Go.RowKit
def decL (l:List UInt8):Nat × Nat:=Lib.decodeN l.length (l.getD 0 0).toNat (l.getD 1 0).toNat (l.getD 2 0).toNat (l.getD 3 0).toNat
theorem get_drop (s:ByteArray) (p k:Nat):s.get! (p + k) = (s.data.toList.drop p).getD k 0:=by
 rw [List.getD_eq_getElem?_getD,List.getElem?_drop,Array.getElem?_toList]
 show s.data[p + k]! = _
 rw [getElem!_def]
 rcases s.data[p + k]? with _ | v <;> rfl
theorem decode_drop (s:ByteArray) (p:Nat):Utf8.decode s p = decL (s.data.toList.drop p):=by
 rw [Lib.decode_at]
 unfold decL
 rw [← get_drop,← get_drop,← get_drop,← get_drop,List.length_drop,Array.length_toList]
 rfl
def encU (r:Nat):List UInt8:=(encN r).map UInt8.ofNat
theorem encN_byte (r:Nat) (h:r ≤ 1114111):∀ x ∈ encN r,x < 256:=by
 unfold encN
 intro x hx
 repeat' split at hx
 all_goals simp only [List.mem_cons,List.not_mem_nil,or_false] at hx
 all_goals omega
theorem encN_ne (r:Nat):1 ≤ (encN r).length ∧ (encN r).length ≤ 4:=by
 unfold encN
 repeat' split
 all_goals simp
theorem chr_le {r:Nat} (h:chr r):r ≤ 1114111:=by unfold chr at h;omega
theorem toNat_of (x:Nat) (h:x < 256):(UInt8.ofNat x).toNat = x:=by
 rw [UInt8.toNat_ofNat'];omega
set_option maxHeartbeats 1000000 in
theorem dec_enc (r:Nat) (h:chr r) (x:List UInt8):decL (encU r ++ x) = (r,(encN r).length):=by
 unfold chr at h
 unfold decL encU encN
 by_cases h1:r < 128
 ·rw [if_pos h1]
  simp only [List.map_cons,List.map_nil,List.cons_append,List.nil_append,List.getD_cons_zero,List.length_cons,List.length_nil]
  rw [toNat_of r (by omega)]
  unfold Lib.decodeN
  rw [if_pos h1]
 ·rw [if_neg h1]
  by_cases h2:r < 2048
  ·rw [if_pos h2]
   simp only [List.map_cons,List.map_nil,List.cons_append,List.nil_append,List.getD_cons_zero,List.getD_cons_succ,List.length_cons,List.length_nil]
   rw [toNat_of (192 + r / 64) (by omega),toNat_of (128 + r % 64) (by omega)]
   unfold Lib.decodeN
   rw [if_neg (by omega),if_pos (by omega),if_pos (by omega)]
   congr 1;omega
  ·rw [if_neg h2]
   by_cases h3:r < 65536
   ·rw [if_pos h3]
    simp only [List.map_cons,List.map_nil,List.cons_append,List.nil_append,List.getD_cons_zero,List.getD_cons_succ,List.length_cons,List.length_nil]
    rw [toNat_of (224 + r / 4096) (by omega),toNat_of (128 + r / 64 % 64) (by omega),toNat_of (128 + r % 64) (by omega)]
    unfold Lib.decodeN
    rw [if_neg (by omega),if_neg (by omega),if_pos (by omega),if_pos (by omega)]
    congr 1;omega
   ·rw [if_neg h3]
    simp only [List.map_cons,List.map_nil,List.cons_append,List.nil_append,List.getD_cons_zero,List.getD_cons_succ,List.length_cons,List.length_nil]
    rw [toNat_of (240 + r / 262144) (by omega),toNat_of (128 + r / 4096 % 64) (by omega),toNat_of (128 + r / 64 % 64) (by omega),toNat_of (128 + r % 64) (by omega)]
    unfold Lib.decodeN
    rw [if_neg (by omega),if_neg (by omega),if_neg (by omega),if_pos (by omega),if_pos (by omega)]
    congr 1;omega
def strU (l:List UInt8):ByteArray:=⟨l.toArray⟩
theorem strU_data (l:List UInt8):(strU l).data.toList = l:=by simp [strU]
theorem strU_size (l:List UInt8):(strU l).size = l.length:=by simp [strU,ByteArray.size]
theorem decL_str (l:List UInt8) (p:Nat):decL (l.drop p) = Utf8.decode (strU l) p:=by rw [decode_drop,strU_data]
theorem map_of_to (l:List UInt8):(l.map UInt8.toNat).map UInt8.ofNat = l:=by
 induction l with
 | nil=>rfl
 | cons b l ih=>simp only [List.map_cons,ih,UInt8.ofNat_toNat]
theorem dec_inv (l:List UInt8) (h:l ≠ []):(chr (decL l).1 ∧ l = encU (decL l).1 ++ l.drop (decL l).2 ∧ (decL l).2 = (encN (decL l).1).length) ∨ decL l = (65533,1):=by
 have hp:0 < (strU l).size:=by rw [strU_size];exact List.length_pos_iff.2 h
 have e0:decL l = Utf8.decode (strU l) 0:=by rw [← decL_str,List.drop_zero]
 by_cases hg:(Utf8.decode (strU l) 0).1 = 65533 ∧ (Utf8.decode (strU l) 0).2 = 1
 ·right;rw [e0];exact Prod.ext hg.1 hg.2
 ·left
  obtain ⟨h1,h2⟩:=decode_good (strU l) 0 hp hg
  have hw:=decode_within (strU l) 0 hp
  rw [← e0] at h1 h2 hw
  refine ⟨h1,?_,?_⟩
  ·unfold bytesN at h2
   rw [strU_data,List.drop_zero,Nat.zero_add] at h2
   have h3:=congrArg (List.map UInt8.ofNat) h2
   rw [List.map_append,map_of_to,map_of_to] at h3
   exact h3
  ·unfold bytesN at h2
   have h3:=congrArg List.length h2
   rw [strU_data] at h3
   simp only [List.length_append,List.length_map,List.length_drop] at h3
   rw [strU_size] at hw
   omega
theorem dec_pos (l:List UInt8) (h:l ≠ []):1 ≤ (decL l).2:=by
 rcases dec_inv l h with ⟨_,_,h⟩ | h
 ·rw [h];exact (encN_ne _).1
 ·rw [h];exact Nat.le_refl _
end Go.Proofs.YtgjokdngbocehaaGreatDoor
namespace Go.Proofs.YtgjokdngbocehaaGreatDoor
open Go.RowKit Go.Lib
def rngs:List (List (Int × Int)) :=
 [[(9,10),(13,13),(32,55295),(57344,65533),(65536,1114111)],
  [(9,10),(13,13),(32,32)],
  [(65,90),(95,95),(97,122),(192,214),(216,246),(248,767),(880,893),(895,8191),(8204,8205),(8304,8591),(11264,12271),(12289,55295),(63744,64975),(65008,65533),(65536,983039)],
  [(45,46),(48,57),(65,90),(95,95),(97,122),(183,183),(192,214),(216,246),(248,893),(895,8191),(8204,8205),(8255,8256),(8304,8591),(11264,12271),(12289,55295),(63744,64975),(65008,65533),(65536,983039)],
  [(48,57)],
  [(48,57),(65,70),(97,102)]]
def rng (c:Nat):List (Int × Int):=rngs.getD c []
def rngData {H:Type}:DataW H:=.agg (rngs.map fun l=>.slice (l.map fun p=>.agg [.lit (.int .i32 p.1),.lit (.int .i32 p.2)]) [])
structure RangesAt (w:World) (g:Nat):Prop where
 lt:g < w.heap.size
 at':∀ c,c < 6 → ∃ b o cap,w.cell? ⟨g,c,none⟩ = some (.slice (some ⟨b,o,none⟩) (rng c).length cap) ∧ b < w.heap.size ∧
  ∀ i,(h:i < (rng c).length) → w.cell? ⟨b,o + i * 2,none⟩ = some (.int .i32 ((rng c)[i]).1) ∧ w.cell? ⟨b,o + i * 2 + 1,none⟩ = some (.int .i32 ((rng c)[i]).2)
theorem RangesAt.below {w w':World} {g:Nat} (h:RangesAt w g) (hb:Below w.heap.size w w'):RangesAt w' g :=
 ⟨Nat.lt_of_lt_of_le h.lt hb.size,fun c hc=>by
  obtain ⟨b,o,cap,h1,h2,h3⟩:=h.at' c hc
  refine ⟨b,o,cap,(hb.cell (p:=⟨g,c,none⟩) h.lt).trans h1,Nat.lt_of_lt_of_le h2 hb.size,fun i hi=>?_⟩
  obtain ⟨h4,h5⟩:=h3 i hi
  exact ⟨(hb.cell (p:=⟨b,o + i * 2,none⟩) h2).trans h4,(hb.cell (p:=⟨b,o + i * 2 + 1,none⟩) h2).trans h5⟩⟩
theorem span_desc:∃ f0 f1,Tryz.prog.underlying 200 = some (.struct #[f0,f1]) ∧ f0.type = 21 ∧ f1.type = 21 ∧ f0.offset = 0 ∧ f1.offset = 1:=by
 refine ⟨_,_,Tryz.underlying200,rfl,rfl,rfl,rfl⟩
theorem cellsSpan:Tryz.prog.cellsOf 200 = 2:=by kernel_rfl
theorem cellsI32:Tryz.prog.cellsOf 21 = 1:=by kernel_rfl
theorem cellsSpans:Tryz.prog.cellsOf 197 = 1:=by kernel_rfl
theorem cellsArr:Tryz.prog.cellsOf 239 = 6:=by kernel_rfl
section
variable {H:Type} {enc:TypeId × Value → H} {w:World} {base:Nat} {sp:Nat → Bool} {held:Bool} {fuel:Nat}
theorem span_read {cs:List Value} {p:Int × Int} {q:List MemPlace}
  (h:DataW.trod enc Tryz.prog w base sp held fuel 200 cs = some (.agg [.lit (.int .i32 p.1),.lit (.int .i32 p.2)],q)):cs = [.int .i32 p.1,.int .i32 p.2]:=by
 obtain ⟨f0,f1,hu,t0,t1,o0,o1⟩:=span_desc
 obtain ⟨y0,y1,n,hx,hl,h0,h1⟩:=Go.ChangeShapes.trod_struct2 hu h
 rw [t0,o0] at h0
 rw [t1,o1] at h1
 rw [cellsSpan] at hl
 rw [cellsI32] at h0 h1
 match cs,hl with
 | [c0,c1],_ =>
  obtain ⟨n0,e0,rfl,_⟩:=DataW.trod_int Tryz.underlying21 h0
  obtain ⟨n1,e1,rfl,_⟩:=DataW.trod_int Tryz.underlying21 h1
  simp at e0 e1
  subst e0
  subst e1
  simp only [Prod.mk.injEq,DataW.agg.injEq,List.cons.injEq,DataW.lit.injEq,Lit.int.injEq,and_true,true_and] at hx
  rw [hx.1.1,hx.1.2]
theorem spans_read {cs:List Value} {l:List (Int × Int)} {q:List MemPlace} (hl:0 < l.length)
  (h:DataW.trod enc Tryz.prog w base sp held fuel 197 cs = some (.slice (l.map fun p=>.agg [.lit (.int .i32 p.1),.lit (.int .i32 p.2)]) [],q)) :
  ∃ b o cap,cs = [.slice (some ⟨b,o,none⟩) l.length cap] ∧ b < w.heap.size ∧ ∀ i,(h:i < l.length) → w.cell? ⟨b,o + i * 2,none⟩ = some (.int .i32 (l[i]).1) ∧ w.cell? ⟨b,o + i * 2 + 1,none⟩ = some (.int .i32 (l[i]).2):=by
 rcases DataW.trod_slice Tryz.underlying197 h with ⟨_,hx⟩ | ⟨a,len,cap,elems,rest,n,_,rfl,hx,_,_,_,hel,hat,_,_⟩
 ·simp at hx
 ·simp only [Prod.mk.injEq,DataW.slice.injEq] at hx
  have hx1:=hx.1.1
  have hlen:len = l.length:=by
   have:=congrArg List.length hx1
   simp at this
   omega
  have each:∀ i,(h:i < l.length) → w.cells? base (a.add (i * 2)) 2 = some [.int .i32 (l[i]).1,.int .i32 (l[i]).2]:=by
   intro i hi
   have h1:=hat i (by omega)
   rw [cellsSpan] at h1
   have h2:elems[i]? = some elems[i]:=List.getElem?_eq_getElem (by omega)
   rw [h2,Option.bind_eq_some_iff] at h1
   obtain ⟨cs',hcs,hr⟩:=h1
   have h3:(elems.map (·.1))[i]? = some elems[i].1:=by rw [List.getElem?_map,h2];rfl
   rw [← hx1,List.getElem?_map,List.getElem?_eq_getElem hi] at h3
   simp only [Option.map_some,Option.some.injEq] at h3
   have h4:=span_read (p:=l[i]) (q:=elems[i].2) (by rw [hr,h3])
   rw [hcs,h4]
  have e0:=each 0 hl
  obtain ⟨_,_,hc0⟩:=World.cells?_some e0
  have hc0':=hc0 0 (by omega)
  obtain ⟨b,o,spt⟩:=a
  have hspt:spt = none:=by
   have:=World.cell?_spot hc0'
   simpa [Addr.add] using this
  subst hspt
  refine ⟨b,o,cap,by rw [hlen],?_,fun i hi=>?_⟩
  ·have:=World.cells?_block e0 (by omega)
   simpa [Addr.add] using this
  ·obtain ⟨_,_,hc⟩:=World.cells?_some (each i hi)
   have k0:=hc 0 (by omega)
   have k1:=hc 1 (by omega)
   rw [Addr.add_mid,Addr.add_mid] at k0 k1
   exact ⟨k0,k1⟩
theorem ranges_read {cs:List Value} {q:List MemPlace} (h:DataW.trod enc Tryz.prog w base sp held fuel 239 cs = some (rngData,q)) :
  cs.length = 6 ∧ ∀ c,c < 6 → ∃ b o cap,cs[c]? = some (.slice (some ⟨b,o,none⟩) (rng c).length cap) ∧ b < w.heap.size ∧
   ∀ i,(h:i < (rng c).length) → w.cell? ⟨b,o + i * 2,none⟩ = some (.int .i32 ((rng c)[i]).1) ∧ w.cell? ⟨b,o + i * 2 + 1,none⟩ = some (.int .i32 ((rng c)[i]).2):=by
 obtain ⟨xs,m,_,hx,hl,hxl,hat⟩:=DataW.trod_array Tryz.underlying239 h
 rw [cellsArr] at hl
 refine ⟨hl,fun c hc=>?_⟩
 have h1:=hat c hc
 rw [cellsSpans,List.getElem?_eq_getElem (by omega),Nat.mul_one] at h1
 have hx1:xs.map (·.1) = rngs.map fun l=>.slice (l.map fun p=>.agg [.lit (.int .i32 p.1),.lit (.int .i32 p.2)]) []:=by
  simp only [Prod.mk.injEq,rngData,DataW.agg.injEq] at hx
  exact hx.1.symm
 have hr:rngs[c]? = some (rng c):=by
  unfold rng
  rw [List.getD,List.getElem?_eq_getElem (show c < rngs.length from hc)]
  rfl
 have h3:(xs.map (·.1))[c]? = some (xs[c]'(by omega)).1:=by rw [List.getElem?_map,List.getElem?_eq_getElem (by omega)];rfl
 rw [hx1,List.getElem?_map,hr] at h3
 simp only [Option.map_some,Option.some.injEq] at h3
 have hpos:0 < (rng c).length:=by
  have:∀ c,c < 6 → 0 < (rng c).length:=by decide
  exact this c hc
 obtain ⟨b,o,cap,h4,h5⟩:=spans_read (l:=rng c) (q:=(xs[c]'(by omega)).2) hpos (by rw [h1,h3])
 refine ⟨b,o,cap,?_,h5⟩
 have h6:(cs.drop c).take 1 = [cs[c]'(by omega)]:=by
  rw [List.drop_eq_getElem_cons (by omega)];rfl
 rw [h6] at h4
 rw [List.getElem?_eq_getElem (by omega)]
 simpa using h4
end
theorem gRanges:Tryz.prog.globalNamed "gimlet/chars.ranges" = some 2:=by kernel_rfl
theorem gRangesType:(Tryz.prog.globals[2]?).map (·.type) = some 239:=by kernel_rfl
theorem ranges_of_laid {W:World} {r:List (String × DataW Unit)} (h:laidMet Tryz.prog (("gimlet/chars.ranges",rngData) :: r) W):RangesAt W 2:=by
 obtain ⟨ps,hl,_,_⟩:=h
 obtain ⟨g,t,cs,fuel,p,q,hn,hy,hv,hr,_,_⟩:=hl
 rw [gRanges] at hn
 injection hn with hn
 subst hn
 rw [gRangesType] at hy
 injection hy with hy
 subst hy
 obtain ⟨hlen,hat⟩:=ranges_read hr
 unfold World.var? at hv
 rw [gRanges] at hv
 simp only [Option.bind_some] at hv
 split at hv
 ·rename_i c e fz heq
  injection hv with hv
  subst hv
  refine ⟨heap_lt heq,fun k hk=>?_⟩
  obtain ⟨b,o,cap,h1,h2,h3⟩:=hat k hk
  exact ⟨b,o,cap,by rw [cell_heap heq,← h1];simp,h2,h3⟩
 ·cases hv
end Go.Proofs.YtgjokdngbocehaaGreatDoor
namespace Go.Proofs.YtgjokdngbocehaaGreatDoor
open Go.RowKit
def isR:List (Int × Int) → Int → Bool
 | [],_=>false
 | p :: l,r=>if r ≤ p.2 then decide (p.1 ≤ r) else isR l r
theorem isR_drop (l:List (Int × Int)) (r:Int) (k:Nat) (h:k < l.length):isR (l.drop k) r = if r ≤ l[k].2 then decide (l[k].1 ≤ r) else isR (l.drop (k + 1)) r:=by
 rw [List.drop_eq_getElem_cons h];rfl
def RetRng (w:World) (c:Nat) (e:Ending):Prop :=
 ∃ b o cap,e = .returned (.slice (some ⟨b,o,none⟩) (rng c).length cap) ∧ b < w.heap.size ∧
  ∀ i,(h:i < (rng c).length) → w.cell? ⟨b,o + i * 2,none⟩ = some (.int .i32 ((rng c)[i]).1) ∧ w.cell? ⟨b,o + i * 2 + 1,none⟩ = some (.int .i32 ((rng c)[i]).2)
theorem of_any (c:Nat) (hc:c < 6) (w:World) (hR:RangesAt w 2) :
  Calls Tryz.prog 133 #[.int .i64 c] w fun e w'=>RetRng w c e ∧ w' = w:=by
 obtain ⟨b,o,cap,h1,h2,h3⟩:=hR.at' c hc
 have H3:=Lib.hid h3
 clear h3 hR
 go_enter Tryz.func133,Tryz.ntmps133
 go_wp2
 go_ret
 exact ⟨⟨b,o,cap,rfl,h2,H3.out⟩,rfl⟩
set_option maxHeartbeats 1000000 in
theorem Is_any (c:Nat) (hc:c < 6) (r:Int) (w:World) (hR:RangesAt w 2) :
  Calls Tryz.prog 105 #[.int .i64 c,.int .i32 r] w fun e w'=>e = .returned (.bool (isR (rng c) r)) ∧ Below w.heap.size w w':=by
 have hlen:(rng c).length ≤ 20:=by
  have:∀ c,c < 6 → (rng c).length ≤ 20:=by decide
  exact this c hc
 have HO:=Lib.hid (of_any c hc w hR)
 clear hR
 go_enter Tryz.func105,Tryz.ntmps105
 go_wp2_with fail
 refine HO.out.mono ?_
 rintro e w1 ⟨⟨b,o,cap,rfl,hb,hcs⟩,rfl⟩
 have HC:=Lib.hid hcs
 clear hcs HO
 generalize hl:rng c = l at *
 have HL:=Lib.hid hl
 clear hl
 obtain ⟨n,hn⟩:∃ n,l.length = n:=⟨_,rfl⟩
 rw [hn] at hlen
 simp only [hn]
 have HN:=Lib.hid hn
 clear hn
 go_wp2_with fail
 go_loopw [10] (fun ix wr=>∃ k:Nat,ix = .int .i64 k ∧ k ≤ n ∧ Below w1.heap.size w1 wr ∧ Hid (isR (l.drop k) r = isR l r)) (fun ix _=>n - (intOf ix).toNat)
 case atStart=>exact ⟨0,rfl,Nat.zero_le _,Below.refl _ _,rfl⟩
 case round =>
  obtain ⟨k,rfl,hk,hbw,hr⟩:=hrel
  by_cases hkn:k < n
  ·have hkl:k < l.length:=by rw [HN.out];exact hkn
   obtain ⟨e0,e1⟩:=HC.out k hkl
   have hd:=hr.out
   rw [isR_drop l r k hkl] at hd
   rw [← hbw.cell (p:=⟨b,o + k * 2,none⟩) hb] at e0
   rw [← hbw.cell (p:=⟨b,o + k * 2 + 1,none⟩) hb] at e1
   generalize l[k] = p at *
   obtain ⟨lo,hi⟩:=p
   simp only at e0 e1 hd
   have HD:=Lib.hid hd
   have hws:w1.heap.size ≤ wr.heap.size:=hbw.size
   have HBW:=Lib.hid hbw
   clear hd hbw hr
   by_cases hle:r ≤ hi
   ·go_wp2
    go_ret
    exact ⟨ret_bool (by rw [HL.out,← HD.out,if_pos hle]),HBW.out.alloc hws _⟩
   ·have hgt:hi < r:=by omega
    go_wp2
    go_roundw
    case rel=>exact ⟨k + 1,by go_num,by omega,HBW.out.alloc hws _,by rw [if_neg hle] at HD;exact HD⟩
    case measure=>simp [intOf];omega
  ·have hd:=hr.out
   rw [List.drop_of_length_le (by rw [HN.out];omega)] at hd
   have HD:=Lib.hid hd
   clear hd hr
   go_wp2
   go_ret
   exact ⟨ret_bool (by rw [HL.out,← HD.out];rfl),hbw⟩
end Go.Proofs.YtgjokdngbocehaaGreatDoor
namespace Go.Proofs.YtgjokdngbocehaaGreatDoor
open Go.RowKit
def runesOk:Nat → List UInt8 → Bool
 | 0,_=>true
 | f + 1,l=>if l = [] then true else isR (rng 0) (decL l).1 && runesOk f (l.drop (decL l).2)
theorem runesOk_fuel (f:Nat):∀ (g:Nat) (l:List UInt8),l.length ≤ f → l.length ≤ g → runesOk f l = runesOk g l:=by
 induction f with
 | zero =>
  intro g l hf _
  obtain rfl:l = []:=List.eq_nil_of_length_eq_zero (by omega)
  cases g <;> rfl
 | succ f ih =>
  intro g l hf hg
  by_cases h:l = []
  ·subst h;cases g <;> rfl
  ·have hl:=List.length_pos_iff.2 h
   obtain ⟨g,rfl⟩:∃ k,g = k + 1:=⟨g - 1,by omega⟩
   have:=dec_pos l h
   simp only [runesOk]
   rw [if_neg h,if_neg h,ih g _ (by rw [List.length_drop];omega) (by rw [List.length_drop];omega)]
def okL (l:List UInt8):Bool:=runesOk l.length l
theorem okL_step (l:List UInt8) (h:l ≠ []):okL l = (isR (rng 0) (decL l).1 && okL (l.drop (decL l).2)):=by
 have hl:=List.length_pos_iff.2 h
 have:=dec_pos l h
 unfold okL
 obtain ⟨f,hf⟩:∃ f,l.length = f + 1:=⟨l.length - 1,by omega⟩
 rw [hf]
 simp only [runesOk]
 rw [if_neg h,runesOk_fuel f (l.drop (decL l).2).length _ (by rw [List.length_drop];omega) (Nat.le_refl _)]
def textsB (l:List UInt8):Bool:=okL l && Lib.validD l
theorem decodeL_dec (l:List UInt8):Lib.decodeL l = decL l:=by
 have:=decL_str l 0
 rw [List.drop_zero] at this
 rw [this];rfl
theorem textsB_good (l:List UInt8) (h:l ≠ []) (hg:¬ ((decL l).1 = 65533 ∧ (decL l).2 = 1)):textsB l = (isR (rng 0) (decL l).1 && textsB (l.drop (decL l).2)):=by
 unfold textsB
 rw [okL_step l h,Lib.validD_step l h,decodeL_dec,if_neg hg,Bool.and_assoc]
theorem textsB_wrong (l:List UInt8) (h:l ≠ []) (hg:(decL l).1 = 65533 ∧ (decL l).2 = 1):textsB l = false:=by
 unfold textsB
 rw [Lib.validD_step l h,decodeL_dec,if_pos hg,Bool.and_false]
end Go.Proofs.YtgjokdngbocehaaGreatDoor
namespace Go.Proofs.YtgjokdngbocehaaGreatDoor
open Go.RowKit
def leadN (x:Nat):Nat × Nat × Nat :=
 if x < 128 then (1,x,0) else if 192 ≤ x ∧ x < 224 then (2,x - 192,128) else if 224 ≤ x ∧ x < 240 then (3,x - 224,2048) else if 240 ≤ x ∧ x < 248 then (4,x - 240,65536) else (0,0,0)
def contN:List UInt8 → Nat → Option Nat
 | [],a=>some a
 | y :: l,a=>if y.toNat < 128 ∨ 191 < y.toNat then none else contN l (a * 64 + (y.toNat - 128))
def widN:Nat → Nat × Nat → Nat × Nat
 | 0,p=>p
 | k + 1,p=>widN k (p.1 * 64,p.2 * 64 + 63)
def spanL:List UInt8 → Nat × Nat
 | []=>(1,0)
 | x :: l =>
  if 4 < l.length + 1 ∨ (leadN x.toNat).1 < l.length + 1 then (1,0)
  else match contN l (leadN x.toNat).2.1 with
   | none=>(1,0)
   | some a=>(max (widN ((leadN x.toNat).1 - (l.length + 1)) (a,a)).1 (leadN x.toNat).2.2,min (widN ((leadN x.toNat).1 - (l.length + 1)) (a,a)).2 1114111)
theorem contN_cons (y:UInt8) (l:List UInt8) (a:Nat) (h:128 ≤ y.toNat ∧ y.toNat ≤ 191):contN (y :: l) a = contN l (a * 64 + (y.toNat - 128)):=by
 simp only [contN]
 rw [if_neg (by omega)]
theorem span_full (x:UInt8) (l:List UInt8) (n f m a:Nat) (h0:leadN x.toNat = (n,f,m)) (h1:l.length + 1 = n) (h4:n ≤ 4) (h2:contN l f = some a):spanL (x :: l) = (max a m,min a 1114111):=by
 simp only [spanL]
 rw [h0]
 simp only
 rw [h1,h2,if_neg (by omega),Nat.sub_self]
 rfl
set_option maxHeartbeats 2000000 in
theorem span_enc (r:Nat) (h:r ≤ 1114111):spanL (encU r) = (r,r):=by
 unfold encU encN
 by_cases h1:r < 128
 ·rw [if_pos h1]
  simp only [List.map_cons,List.map_nil]
  have e0:=toNat_of r (by omega)
  rw [span_full _ [] 1 r 0 r (by rw [e0];unfold leadN;rw [if_pos h1]) rfl (by decide) rfl]
  simp only [Prod.mk.injEq]
  omega
 ·rw [if_neg h1]
  by_cases h2:r < 2048
  ·rw [if_pos h2]
   simp only [List.map_cons,List.map_nil]
   have e0:=toNat_of (192 + r / 64) (by omega)
   have e1:=toNat_of (128 + r % 64) (by omega)
   rw [span_full _ _ 2 (192 + r / 64 - 192) 128 r (by rw [e0];unfold leadN;rw [if_neg (by omega),if_pos (by omega)]) rfl (by decide)
    (by rw [contN_cons _ _ _ (by omega),e1];simp only [contN,Option.some.injEq];omega)]
   simp only [Prod.mk.injEq]
   omega
  ·rw [if_neg h2]
   by_cases h3:r < 65536
   ·rw [if_pos h3]
    simp only [List.map_cons,List.map_nil]
    have e0:=toNat_of (224 + r / 4096) (by omega)
    have e1:=toNat_of (128 + r / 64 % 64) (by omega)
    have e2:=toNat_of (128 + r % 64) (by omega)
    rw [span_full _ _ 3 (224 + r / 4096 - 224) 2048 r (by rw [e0];unfold leadN;rw [if_neg (by omega),if_neg (by omega),if_pos (by omega)]) rfl (by decide)
     (by rw [contN_cons _ _ _ (by omega),contN_cons _ _ _ (by omega),e1,e2];simp only [contN,Option.some.injEq];omega)]
    simp only [Prod.mk.injEq]
    omega
   ·rw [if_neg h3]
    simp only [List.map_cons,List.map_nil]
    have e0:=toNat_of (240 + r / 262144) (by omega)
    have e1:=toNat_of (128 + r / 4096 % 64) (by omega)
    have e2:=toNat_of (128 + r / 64 % 64) (by omega)
    have e3:=toNat_of (128 + r % 64) (by omega)
    rw [span_full _ _ 4 (240 + r / 262144 - 240) 65536 r (by rw [e0];unfold leadN;rw [if_neg (by omega),if_neg (by omega),if_neg (by omega),if_pos (by omega)]) rfl (by decide)
     (by rw [contN_cons _ _ _ (by omega),contN_cons _ _ _ (by omega),contN_cons _ _ _ (by omega),e1,e2,e3];simp only [contN,Option.some.injEq];omega)]
    simp only [Prod.mk.injEq]
    omega
theorem span_same (l:List UInt8) (h:(spanL l).1 = (spanL l).2):(spanL l).1 ≤ 1114111:=by
 rw [h]
 rcases l with _ | ⟨x,l⟩
 ·simp [spanL]
 ·simp only [spanL]
  split
  ·decide
  ·split
   ·decide
   ·simp only;omega
theorem enc_head (r q:Nat) (hr:r ≤ 1114111) (hq:q ≤ 1114111) (y z:List UInt8) (h:encU r ++ y = encU q ++ z):(encN r).length = (encN q).length:=by
 have h2:=congrArg (List.map UInt8.toNat) h
 rw [List.map_append,List.map_append] at h2
 have hm:∀ r,r ≤ 1114111 → (encU r).map UInt8.toNat = encN r:=by
  intro r hr
  unfold encU
  rw [List.map_map]
  have:∀ l:List Nat,(∀ x ∈ l,x < 256) → l.map (UInt8.toNat ∘ UInt8.ofNat) = l:=by
   intro l
   induction l with
   | nil=>intro _;rfl
   | cons a l ih=>intro hl;rw [List.map_cons,ih (fun x hx=>hl x (by simp [hx]))];congr 1;exact toNat_of a (hl a (by simp))
  exact this _ (encN_byte r hr)
 rw [hm r hr,hm q hq] at h2
 clear h
 unfold encN at h2 ⊢
 by_cases a1:r < 128
 ·rw [if_pos a1] at h2 ⊢
  by_cases b1:q < 128
  ·rw [if_pos b1];rfl
  ·rw [if_neg b1] at h2 ⊢
   by_cases b2:q < 2048
   ·rw [if_pos b2] at h2;simp only [List.cons_append,List.cons.injEq] at h2;omega
   ·rw [if_neg b2] at h2
    by_cases b3:q < 65536
    ·rw [if_pos b3] at h2;simp only [List.cons_append,List.cons.injEq] at h2;omega
    ·rw [if_neg b3] at h2;simp only [List.cons_append,List.cons.injEq] at h2;omega
 ·rw [if_neg a1] at h2 ⊢
  by_cases a2:r < 2048
  ·rw [if_pos a2] at h2 ⊢
   by_cases b1:q < 128
   ·rw [if_pos b1] at h2;simp only [List.cons_append,List.cons.injEq] at h2;omega
   ·rw [if_neg b1] at h2 ⊢
    by_cases b2:q < 2048
    ·rw [if_pos b2];rfl
    ·rw [if_neg b2] at h2
     by_cases b3:q < 65536
     ·rw [if_pos b3] at h2;simp only [List.cons_append,List.cons.injEq] at h2;omega
     ·rw [if_neg b3] at h2;simp only [List.cons_append,List.cons.injEq] at h2;omega
  ·rw [if_neg a2] at h2 ⊢
   by_cases a3:r < 65536
   ·rw [if_pos a3] at h2 ⊢
    by_cases b1:q < 128
    ·rw [if_pos b1] at h2;simp only [List.cons_append,List.cons.injEq] at h2;omega
    ·rw [if_neg b1] at h2 ⊢
     by_cases b2:q < 2048
     ·rw [if_pos b2] at h2;simp only [List.cons_append,List.cons.injEq] at h2;omega
     ·rw [if_neg b2] at h2 ⊢
      by_cases b3:q < 65536
      ·rw [if_pos b3];rfl
      ·rw [if_neg b3] at h2;simp only [List.cons_append,List.cons.injEq] at h2;omega
   ·rw [if_neg a3] at h2 ⊢
    by_cases b1:q < 128
    ·rw [if_pos b1] at h2;simp only [List.cons_append,List.cons.injEq] at h2;omega
    ·rw [if_neg b1] at h2 ⊢
     by_cases b2:q < 2048
     ·rw [if_pos b2] at h2;simp only [List.cons_append,List.cons.injEq] at h2;omega
     ·rw [if_neg b2] at h2 ⊢
      by_cases b3:q < 65536
      ·rw [if_pos b3] at h2;simp only [List.cons_append,List.cons.injEq] at h2;omega
      ·rw [if_neg b3];rfl
def hitN (l:List UInt8) (n:Nat):Bool:=(spanL (l.take n)).1 == (spanL (l.take n)).2 && encU (spanL (l.take n)).1 == l.take n
def surr (r:Nat):Bool:=decide (55296 ≤ r ∧ r ≤ 57343)
def readR (l:List UInt8):Nat → Nat → Nat × Nat
 | 0,_=>(0,0)
 | f + 1,n=>if n ≤ 4 ∧ n ≤ l.length then (if hitN l n = true then (if surr (spanL (l.take n)).1 = true then (0,0) else ((spanL (l.take n)).1,n)) else readR l f (n + 1)) else (0,0)
theorem hit_inv (l:List UInt8) (n:Nat) (h:hitN l n = true):∃ r,r ≤ 1114111 ∧ (spanL (l.take n)).1 = r ∧ l.take n = encU r ∧ l = encU r ++ l.drop n:=by
 unfold hitN at h
 simp only [Bool.and_eq_true,beq_iff_eq] at h
 refine ⟨_,span_same _ h.1,rfl,h.2.symm,?_⟩
 rw [h.2,List.take_append_drop]
theorem readR_bad (l:List UInt8) (hb:(decL l).1 = 65533 ∧ (decL l).2 = 1):∀ f n,readR l f n = (0,0)
 | 0,_=>rfl
 | f + 1,n=>by
  simp only [readR]
  split
  ·by_cases h:hitN l n = true
   ·rw [if_pos h]
    obtain ⟨r,hr,e,_,hl⟩:=hit_inv l n h
    rw [e]
    by_cases hs:surr r = true
    ·rw [if_pos hs]
    ·exfalso
     have hc:chr r:=by
      unfold surr at hs
      simp only [decide_eq_true_eq] at hs
      unfold chr;omega
     have hd:=dec_enc r hc (l.drop n)
     rw [← hl] at hd
     rw [hd] at hb
     simp only at hb
     obtain ⟨rfl,h2⟩:=hb
     exact absurd h2 (by decide)
   ·rw [if_neg h]
    exact readR_bad l hb f (n + 1)
  ·rfl
theorem readR_good (l:List UInt8) (h:l ≠ []) (hg:¬ ((decL l).1 = 65533 ∧ (decL l).2 = 1)):∀ f n,n ≤ (decL l).2 → (decL l).2 < f + n → readR l f n = decL l:=by
 obtain ⟨hc,hl,hn⟩:chr (decL l).1 ∧ l = encU (decL l).1 ++ l.drop (decL l).2 ∧ (decL l).2 = (encN (decL l).1).length:=by
  rcases dec_inv l h with hi | hi
  ·exact hi
  ·exact absurd (by rw [hi];exact ⟨rfl,rfl⟩) hg
 have hll:(decL l).2 ≤ l.length:=by
  have:=congrArg List.length hl
  rw [List.length_append,encU,List.length_map,← hn] at this
  omega
 have h4:=(encN_ne (decL l).1).2
 intro f
 induction f with
 | zero=>intro n h1 h2;omega
 | succ f ih =>
  intro n h1 h2
  simp only [readR]
  rw [if_pos (by omega)]
  by_cases hh:hitN l n = true
  ·rw [if_pos hh]
   obtain ⟨r,hr,e,ht,hl2⟩:=hit_inv l n hh
   have h3:=enc_head r (decL l).1 hr (chr_le hc) (l.drop n) (l.drop (decL l).2) (by rw [← hl2,← hl])
   have h5:=congrArg List.length ht
   rw [List.length_take,encU,List.length_map,h3,← hn] at h5
   have h6:n = (decL l).2:=by omega
   have h7:encU r = encU (decL l).1:=by
    rw [← ht,h6]
    have:=congrArg (List.take (decL l).2) hl
    rw [this,List.take_append_of_le_length (by simp [encU,hn]),List.take_of_length_le (by simp [encU,hn])]
   have h8:=congrArg spanL h7
   rw [span_enc r hr,span_enc _ (chr_le hc)] at h8
   simp only [Prod.mk.injEq] at h8
   rw [e,h8.1]
   have hs:surr (decL l).1 = false:=by unfold surr;unfold chr at hc;simp only [decide_eq_false_iff_not];omega
   rw [hs,h6]
   simp
  ·rw [if_neg hh]
   by_cases h6:n = (decL l).2
   ·exfalso
    apply hh
    have ht:l.take n = encU (decL l).1:=by
     rw [h6]
     have:=congrArg (List.take (decL l).2) hl
     rw [this,List.take_append_of_le_length (by simp [encU,hn]),List.take_of_length_le (by simp [encU,hn])]
    unfold hitN
    rw [ht,span_enc _ (chr_le hc)]
    simp
   ·exact ih (n + 1) (by omega) (by omega)
def textsR:Nat → List UInt8 → Bool
 | 0,_=>true
 | f + 1,l=>if l = [] then true else if (readR l 4 1).2 = 0 ∨ isR (rng 0) (readR l 4 1).1 = false then false else textsR f (l.drop (readR l 4 1).2)
theorem textsR_eq (f:Nat):∀ l:List UInt8,l.length ≤ f → textsR f l = textsB l:=by
 induction f with
 | zero =>
  intro l h
  obtain rfl:l = []:=List.eq_nil_of_length_eq_zero (by omega)
  rfl
 | succ f ih =>
  intro l h
  simp only [textsR]
  by_cases h0:l = []
  ·subst h0;rfl
  ·rw [if_neg h0]
   by_cases hg:(decL l).1 = 65533 ∧ (decL l).2 = 1
   ·rw [readR_bad l hg,textsB_wrong l h0 hg]
    simp
   ·have hp:=dec_pos l h0
    have h4:(decL l).2 ≤ 4:=by
     rcases dec_inv l h0 with ⟨_,_,hi⟩ | hi
     ·rw [hi];exact (encN_ne _).2
     ·rw [hi];decide
    have hl:=List.length_pos_iff.2 h0
    rw [readR_good l h0 hg 4 1 hp (by omega),textsB_good l h0 hg,ih _ (by rw [List.length_drop];omega)]
    cases hi:isR (rng 0) (decL l).1 with
    | false=>simp
    | true=>rw [if_neg (by simp;omega)];simp
end Go.Proofs.YtgjokdngbocehaaGreatDoor
