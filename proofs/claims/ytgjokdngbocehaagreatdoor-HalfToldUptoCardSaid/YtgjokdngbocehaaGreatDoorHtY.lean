/-
  gimletlaw12: light says something, whatever comes.
-/
import Derived.RangeFuncNested
import Derived.RangeFuncBox
import Derived.RangeFuncLeaves
import Derived.RowKit
import Derived.IntWalk
import Derived.BigRegion
import Derived.Shelf.Abstract
import Derived.OwnWalkIn
import Derived.TacticsInMore
import Derived.LoopNIn
import Derived.LoopIn
import Derived.Test.YtgjokdngbocehaaGreatDoorHtA
import Derived.Test.YtgjokdngbocehaaGreatDoorHtD
import Derived.Test.YtgjokdngbocehaaGreatDoorHtE
import Derived.Test.YtgjokdngbocehaaGreatDoorHtF
import Derived.Test.YtgjokdngbocehaaGreatDoorHtM
namespace Go.Proofs.YtgjokdngbocehaaGreatDoor
open Go.RowKit
theorem w64_eq (x:Int):Go.RowKit.wrap64 x = IntKind.i64.wrap x:=by rw [IntKind.wrap_i64];unfold Go.RowKit.wrap64;rfl
def capL {α:Type} (B:Int) (h:α → Int → Int):Int → List α → Int
 | n,[]=>n
 | n,x :: r=>if n ≤ B then capL B h (h x n) r else n
theorem capL_stop {α:Type} {B:Int} {h:α → Int → Int} {n:Int} (hn:B < n) (l:List α):capL B h n l = n:=by
 cases l with
 | nil=>rfl
 | cons x r=>exact if_neg (by omega)
theorem capL_cons {α:Type} {B:Int} {h:α → Int → Int} {n:Int} (hn:n ≤ B) (x:α) (r:List α):capL B h n (x :: r) = capL B h (h x n) r:=if_pos hn
def wtS (g:Int → List PX → Int) (d:Int) (s:PS) (n:Int):Int:=IntKind.i64.wrap (n + g (IntKind.i64.wrap (d + 1)) s.wher)
def wtN (g:Int → List PX → Int) (d:Int) (ss:List PS):Int:=if 12 < d then 1000 else capL 60 (wtS g d) ss.length ss
def exS (g:Int → List PX → Int) (d:Int) (x:PX) (n:Int):Int:=IntKind.i64.wrap (n + IntKind.i64.wrap (g (IntKind.i64.wrap (d + 1)) x.args + wtN g (IntKind.i64.wrap (d + 1)) x.path))
def exN:Nat → Int → List PX → Int
 | 0,d,l=>if 12 < d then 1000 else l.length
 | f + 1,d,l=>if 12 < d then 1000 else capL 60 (exS (exN f) d) l.length l
def WtX (f:Nat):Prop:=∀ (a:Option Addr) (c:Nat) (ss:List PS) (d:Int) (W:World),SsAt f W a ss → ss.length ≤ 1048576 →
 Calls Tryz.prog 27 #[.slice a ss.length c,.int .i64 d] W fun e w'=>e = .returned (.int .i64 (wtN (exN f) d ss)) ∧ Below W.heap.size W w'
def ExX (f:Nat):Prop:=∀ (a:Option Addr) (c:Nat) (l:List PX) (d:Int) (W:World),XsAt f W a l → l.length ≤ 1048576 →
 Calls Tryz.prog 47 #[.slice a l.length c,.int .i64 d] W fun e w'=>e = .returned (.int .i64 (exN f d l)) ∧ Below W.heap.size W w'
set_option maxRecDepth 100000 in
set_option maxHeartbeats 4000000 in
theorem weight_of {f:Nat} (HL:ExX f):WtX f:=fun a c ss d w hs hn=>by
 have HS:=Lib.hid hs
 have HLL:=Lib.hid HL
 obtain ⟨R,hR⟩:∃ R,wtN (exN f) d ss = R:=⟨_,rfl⟩
 rw [hR]
 unfold wtN at hR
 by_cases hd:12 < d
 ·rw [if_pos hd] at hR
  have HR:=Lib.hid hR
  clear hs HL hR HS HLL
  generalize ss.length = n at *
  go_enter Tryz.func27,Tryz.ntmps27
  go_wp2_with fail
  go_ret
  exact ⟨ret_int HR.out,Below.refl _ _⟩
 rw [if_neg hd] at hR
 have hd':d ≤ 12:=by omega
 have HR:=Lib.hid hR
 clear hs HL hR hd
 obtain ⟨n,hm⟩:∃ n,ss.length = n:=⟨_,rfl⟩
 rw [hm] at hn HR ⊢
 have HM:=Lib.hid hm
 clear hm
 go_enter Tryz.func27,Tryz.ntmps27
 go_wp2_with fail
 go_loopw [5,6] (fun kv iv wr=>∃ (i:Nat) (r:Int),iv = .int .i64 i ∧ kv = .int .i64 r ∧ i ≤ n ∧ Hid (capL 60 (wtS (exN f) d) r (ss.drop i) = R ∧ Below w.heap.size w wr)) (fun _ iv _=>n - (intOf iv).toNat)
 case atStart=>exact ⟨0,n,rfl,rfl,Nat.zero_le _,Lib.hid ⟨by rw [List.drop_zero];exact HR.out,Below.refl _ _⟩⟩
 case round =>
  obtain ⟨i,r,rfl,rfl,hin,HB⟩:=hrel
  by_cases hi:i < n
  ·have i1:(0:Int) ≤ (i:Int):=by omega
   have i2:(i:Int) < (n:Int):=by omega
   have ewi:IntKind.i64.wrap ((i:Int) + 1) = (i:Int) + 1:=IntWalk.i64_in _ (by omega)
   by_cases hr:r ≤ 60
   ·have hil:i < ss.length:=by rw [HM.out];exact hi
    obtain ⟨b,o,wa,wc,rfl,hb,hx,h4,h5,h6,h7,h8,hcs⟩:=HS.out.get i hil
    have HCS:Hid (∀ W,Below w.heap.size w W → W.cell? ⟨b,o + i * 4 + 3,none⟩ = some (.slice wa ss[i].wher.length wc)):=Lib.hid fun W hW=>(hcs W hW).2.2.2
    have HRL:Hid (∀ W q,Below w.heap.size w W → Calls Tryz.prog 47 #[.slice wa ss[i].wher.length wc,.int .i64 q] W fun e w'=>e = .returned (.int .i64 (exN f q ss[i].wher)) ∧ Below W.heap.size W w'):=Lib.hid fun W q hW=>HLL.out wa wc ss[i].wher q W (XsAt.below hx hW) h8
    have HNX:Hid (capL 60 (wtS (exN f) d) (IntKind.i64.wrap (r + exN f (IntKind.i64.wrap (d + 1)) ss[i].wher)) (ss.drop (i + 1)) = R):=Lib.hid (by
     have:=HB.out.1
     rw [List.drop_eq_getElem_cons hil,capL_cons hr] at this
     exact this)
    clear hcs hx h4 h5 h6 h7 h8 hb
    generalize hnew:exN f (IntKind.i64.wrap (d + 1)) ss[i].wher = z at *
    have HNEW:=Lib.hid hnew
    clear hnew
    generalize ss[i].wher = wl at *
    generalize hwl:wl.length = wn at *
    clear hwl
    generalize hdd:IntKind.i64.wrap (d + 1) = dd at *
    have c3:=HCS.out _ HB.out.2
    go_wp2_with fail
    (with_reducible refine (HRL.out _ dd HB.out.2).mono ?_)
    rintro e w2 ⟨rfl,hb2⟩
    rw [HNEW.out]
    have HB2:=Lib.hid (HB.out.2.trans (hb2.mono HB.out.2.size))
    clear hb2
    go_wp2_with fail
    go_roundw
    case rel=>exact ⟨i + 1,_,by go_num,rfl,by omega,Lib.hid ⟨(by rw [w64_eq];exact HNX.out),HB2.out⟩⟩
    case measure=>simp [intOf];omega
   ·have hr':60 < r:=by omega
    have HE:Hid (r = R):=Lib.hid (by rw [← HB.out.1,capL_stop hr'])
    go_wp2_with fail
    go_ret
    exact ⟨ret_int HE.out,HB.out.2⟩
  ·have i4:(n:Int) ≤ (i:Int):=by omega
   have HE:Hid (r = R):=Lib.hid (by rw [← HB.out.1,List.drop_of_length_le (by rw [HM.out];omega)];rfl)
   go_wp2_with fail
   go_ret
   exact ⟨ret_int HE.out,HB.out.2⟩
set_option maxRecDepth 100000 in
set_option maxHeartbeats 4000000 in
theorem exprs_big (f:Nat) (a:Option Addr) (c:Nat) (l:List PX) (d:Int) (w:World) (hd:12 < d) :
  Calls Tryz.prog 47 #[.slice a l.length c,.int .i64 d] w fun e w'=>e = .returned (.int .i64 (exN f d l)) ∧ Below w.heap.size w w':=by
 have hR:exN f d l = 1000:=by cases f <;> exact if_pos hd
 rw [hR]
 clear hR
 generalize l.length = n at *
 go_enter Tryz.func47,Tryz.ntmps47
 go_wp2_with fail
 go_ret
 exact ⟨rfl,Below.refl _ _⟩
set_option maxRecDepth 100000 in
set_option maxHeartbeats 4000000 in
theorem exprs_of {f:Nat} (HL:ExX f) (HW:WtX f):ExX (f + 1):=fun a c l d w hs hn=>by
 by_cases hd:12 < d
 ·exact exprs_big _ a c l d w hd
 have HS:=Lib.hid hs
 have HLL:=Lib.hid HL
 have HWW:=Lib.hid HW
 obtain ⟨R,hR⟩:∃ R,exN (f + 1) d l = R:=⟨_,rfl⟩
 rw [hR]
 have hR':capL 60 (exS (exN f) d) l.length l = R:=(if_neg hd).symm.trans hR
 have hd':d ≤ 12:=by omega
 have HR:=Lib.hid hR'
 clear hs HL HW hR hR' hd
 obtain ⟨n,hm⟩:∃ n,l.length = n:=⟨_,rfl⟩
 rw [hm] at hn HR ⊢
 have HM:=Lib.hid hm
 clear hm
 go_enter Tryz.func47,Tryz.ntmps47
 go_wp2_with fail
 go_loopw [5,6] (fun kv iv wr=>∃ (i:Nat) (r:Int),iv = .int .i64 i ∧ kv = .int .i64 r ∧ i ≤ n ∧ Hid (capL 60 (exS (exN f) d) r (l.drop i) = R ∧ Below w.heap.size w wr)) (fun _ iv _=>n - (intOf iv).toNat)
 case atStart=>exact ⟨0,n,rfl,rfl,Nat.zero_le _,Lib.hid ⟨by rw [List.drop_zero];exact HR.out,Below.refl _ _⟩⟩
 case round =>
  obtain ⟨i,r,rfl,rfl,hin,HB⟩:=hrel
  by_cases hi:i < n
  ·have i1:(0:Int) ≤ (i:Int):=by omega
   have i2:(i:Int) < (n:Int):=by omega
   have ewi:IntKind.i64.wrap ((i:Int) + 1) = (i:Int) + 1:=IntWalk.i64_in _ (by omega)
   by_cases hr:r ≤ 60
   ·have hil:i < l.length:=by rw [HM.out];exact hi
    obtain ⟨b,o,xa,xc,xp,xd,rfl,hb,hxa,hxp,h4,h5,h6,h7,h8,h9,h10,h11,h12,hcs⟩:=HS.out.get i hil
    have HCS:Hid (∀ W,Below w.heap.size w W → W.cell? ⟨b,o + i * 7 + 1,none⟩ = some (.slice xa l[i].args.length xc) ∧ W.cell? ⟨b,o + i * 7 + 2,none⟩ = some (.slice xp l[i].path.length xd) ∧ Below w.heap.size w W):=Lib.hid fun W hW=>⟨(hcs W hW).2.1,(hcs W hW).2.2.1,hW⟩
    have HRL:Hid (∀ W q,Below w.heap.size w W → Calls Tryz.prog 47 #[.slice xa l[i].args.length xc,.int .i64 q] W fun e w'=>e = .returned (.int .i64 (exN f q l[i].args)) ∧ Below W.heap.size W w'):=Lib.hid fun W q hW=>HLL.out xa xc l[i].args q W (XsAt.below hxa hW) h11
    have HRX:Hid (∀ W q,Below w.heap.size w W → Calls Tryz.prog 27 #[.slice xp l[i].path.length xd,.int .i64 q] W fun e w'=>e = .returned (.int .i64 (wtN (exN f) q l[i].path)) ∧ Below W.heap.size W w'):=Lib.hid fun W q hW=>HWW.out xp xd l[i].path q W (SsAt.below hxp hW) h12
    have HNX:Hid (capL 60 (exS (exN f) d) (IntKind.i64.wrap (r + IntKind.i64.wrap (exN f (IntKind.i64.wrap (d + 1)) l[i].args + wtN (exN f) (IntKind.i64.wrap (d + 1)) l[i].path))) (l.drop (i + 1)) = R):=Lib.hid (by
     have:=HB.out.1
     rw [List.drop_eq_getElem_cons hil,capL_cons hr] at this
     exact this)
    clear hcs hxa hxp h4 h5 h6 h7 h8 h9 h10 h11 h12 hb
    obtain ⟨dd,hdd⟩:∃ dd,IntKind.i64.wrap (d + 1) = dd:=⟨_,rfl⟩
    rw [hdd] at HNX
    have HRL2:Hid (∀ W,Below w.heap.size w W → Calls Tryz.prog 47 #[.slice xa l[i].args.length xc,.int .i64 dd] W fun e w'=>e = .returned (.int .i64 (exN f dd l[i].args)) ∧ Below w.heap.size w w'):=Lib.hid fun W hW=>(HRL.out W dd hW).mono fun e w' ⟨h1,h2⟩=>⟨h1,hW.trans (h2.mono hW.size)⟩
    have HRX2:Hid (∀ W,Below w.heap.size w W → Calls Tryz.prog 27 #[.slice xp l[i].path.length xd,.int .i64 dd] W fun e w'=>e = .returned (.int .i64 (wtN (exN f) dd l[i].path)) ∧ Below w.heap.size w w'):=Lib.hid fun W hW=>(HRX.out W dd hW).mono fun e w' ⟨h1,h2⟩=>⟨h1,hW.trans (h2.mono hW.size)⟩
    clear HRL HRX
    generalize exN f dd l[i].args = z1 at *
    generalize wtN (exN f) dd l[i].path = z2 at *
    generalize l[i].args.length = xl at *
    generalize l[i].path.length = pl at *
    have HBD:=Lib.hid (HB.out.2.drew)
    have hbd:=HBD.out
    obtain ⟨c1,c2,_⟩:=HCS.out _ hbd
    go_wp2_with fail
    go_region_held3 (fun w'=>w'.cell? ⟨b,o + i * 7 + 1,none⟩ = some (.slice xa xl xc) ∧ w'.cell? ⟨b,o + i * 7 + 2,none⟩ = some (.slice xp pl xd) ∧ Below w.heap.size w w') (first | exact HCS.out _ hbd | exact HCS.out _ ‹_›) (first | (go_at_call 47;(with_reducible refine (HRL2.out _ ‹_›).mono ?_);rintro e w5 ⟨rfl,hb5⟩) | (go_at_call 27;(with_reducible refine (HRX2.out _ ‹_›).mono ?_);rintro e w7 ⟨rfl,hb7⟩))
    have HB8:=Lib.hid hb7
    clear hb5 hb7
    go_wp2_with fail
    go_roundw
    case rel=>exact ⟨i + 1,_,by go_num,rfl,by omega,Lib.hid ⟨HNX.out,HB8.out⟩⟩
    case measure=>simp [intOf];omega
   ·have hr':60 < r:=by omega
    have HE:Hid (r = R):=Lib.hid (by rw [← HB.out.1,capL_stop hr'])
    go_wp2_with fail
    go_ret
    exact ⟨ret_int HE.out,HB.out.2⟩
  ·have i4:(n:Int) ≤ (i:Int):=by omega
   have HE:Hid (r = R):=Lib.hid (by rw [← HB.out.1,List.drop_of_length_le (by rw [HM.out];omega)];rfl)
   go_wp2_with fail
   go_ret
   exact ⟨ret_int HE.out,HB.out.2⟩
set_option maxRecDepth 100000 in
set_option maxHeartbeats 4000000 in
theorem exprs_zero:ExX 0:=fun a c l d w hs hn=>by
 by_cases hd:12 < d
 ·exact exprs_big _ a c l d w hd
 obtain rfl:l = []:=XsAt.zero hs
 have hR:exN 0 d [] = 0:=if_neg hd
 rw [hR,show ([]:List PX).length = 0 from rfl]
 have hd':d ≤ 12:=by omega
 clear hs hn hd hR
 go_enter Tryz.func47,Tryz.ntmps47
 go_wp2_with fail
 go_loopw [5,6] (fun kv iv wr=>iv = .int .i64 0 ∧ kv = .int .i64 0 ∧ Hid (Below w.heap.size w wr)) (fun _ _ _=>0)
 case atStart=>exact ⟨rfl,rfl,Lib.hid (Below.refl _ _)⟩
 case round =>
  obtain ⟨rfl,rfl,HB⟩:=hrel
  go_wp2_with fail
  go_ret
  exact ⟨rfl,HB.out⟩
theorem exprs_all:∀ f,ExX f
 | 0=>exprs_zero
 | f + 1=>exprs_of (exprs_all f) (weight_of (exprs_all f))
theorem weight_all (f:Nat):WtX f:=weight_of (exprs_all f)
end Go.Proofs.YtgjokdngbocehaaGreatDoor
namespace Go.Proofs.YtgjokdngbocehaaGreatDoor
open Go.RowKit
def SomeB (e:Ending):Prop:=∃ b,e = .returned (.bool b)
def wkL (g:Int → List PX → Int) (m:Int):Int → List PS → Int
 | n,[]=>n
 | n,s :: r=>if n ≤ 16777216 then (if 16777216 < IntKind.i64.wrap (1 + g m s.wher) then IntKind.i64.wrap (1 + g m s.wher) else wkL g m (IntKind.i64.wrap (n + IntKind.i64.wrap (m * IntKind.i64.wrap (1 + g m s.wher)))) r) else n
theorem wkL_stop {g:Int → List PX → Int} {m n:Int} (hn:16777216 < n) (l:List PS):wkL g m n l = n:=by
 cases l with
 | nil=>rfl
 | cons x r=>exact if_neg (by omega)
theorem wkL_cons {g:Int → List PX → Int} {m n:Int} (hn:n ≤ 16777216) (s:PS) (r:List PS):wkL g m n (s :: r) = if 16777216 < IntKind.i64.wrap (1 + g m s.wher) then IntKind.i64.wrap (1 + g m s.wher) else wkL g m (IntKind.i64.wrap (n + IntKind.i64.wrap (m * IntKind.i64.wrap (1 + g m s.wher)))) r:=if_pos hn
def woS (g:Int → List PX → Int) (m:Int) (x:PX) (n:Int):Int:=IntKind.i64.wrap (n + IntKind.i64.wrap (IntKind.i64.wrap (1 + g m x.args) + wkL g m 0 x.path))
def woN:Nat → Int → List PX → Int
 | 0,_,_=>0
 | f + 1,m,l=>capL 16777216 (woS (woN f) m) 0 l
def WkX (f:Nat):Prop:=∀ (a:Option Addr) (c:Nat) (ss:List PS) (m:Int) (W:World),SsAt f W a ss → ss.length ≤ 1048576 →
 Calls Tryz.prog 41 #[.slice a ss.length c,.int .i64 m] W fun e w'=>e = .returned (.int .i64 (wkL (woN f) m 0 ss)) ∧ Below W.heap.size W w'
def WoX (f:Nat):Prop:=∀ (a:Option Addr) (c:Nat) (l:List PX) (m:Int) (W:World),XsAt f W a l → l.length ≤ 1048576 →
 Calls Tryz.prog 75 #[.slice a l.length c,.int .i64 m] W fun e w'=>e = .returned (.int .i64 (woN f m l)) ∧ Below W.heap.size W w'
set_option maxRecDepth 100000 in
set_option maxHeartbeats 4000000 in
theorem work_of {f:Nat} (HL:WoX f):WkX f:=fun a c ss m w hs hn=>by
 have HS:=Lib.hid hs
 have HLL:=Lib.hid HL
 obtain ⟨R,hR⟩:∃ R,wkL (woN f) m 0 ss = R:=⟨_,rfl⟩
 rw [hR]
 have HR:=Lib.hid hR
 clear hs HL hR
 obtain ⟨n,hm⟩:∃ n,ss.length = n:=⟨_,rfl⟩
 rw [hm] at hn ⊢
 have HM:=Lib.hid hm
 clear hm
 go_enter Tryz.func41,Tryz.ntmps41
 go_wp2_with fail
 go_loopw [5,6] (fun kv iv wr=>∃ (i:Nat) (r:Int),iv = .int .i64 i ∧ kv = .int .i64 r ∧ i ≤ n ∧ Hid (wkL (woN f) m r (ss.drop i) = R ∧ Below w.heap.size w wr)) (fun _ iv _=>n - (intOf iv).toNat)
 case atStart=>exact ⟨0,0,rfl,rfl,Nat.zero_le _,Lib.hid ⟨by rw [List.drop_zero];exact HR.out,Below.refl _ _⟩⟩
 case round =>
  obtain ⟨i,r,rfl,rfl,hin,HB⟩:=hrel
  by_cases hi:i < n
  ·have i1:(0:Int) ≤ (i:Int):=by omega
   have i2:(i:Int) < (n:Int):=by omega
   have ewi:IntKind.i64.wrap ((i:Int) + 1) = (i:Int) + 1:=IntWalk.i64_in _ (by omega)
   by_cases hr:r ≤ 16777216
   ·have hil:i < ss.length:=by rw [HM.out];exact hi
    obtain ⟨b,o,wa,wc,rfl,hb,hx,h4,h5,h6,h7,h8,hcs⟩:=HS.out.get i hil
    have HCS:Hid (∀ W,Below w.heap.size w W → W.cell? ⟨b,o + i * 4 + 3,none⟩ = some (.slice wa ss[i].wher.length wc)):=Lib.hid fun W hW=>(hcs W hW).2.2.2
    have HRL:Hid (∀ W,Below w.heap.size w W → Calls Tryz.prog 75 #[.slice wa ss[i].wher.length wc,.int .i64 m] W fun e w'=>e = .returned (.int .i64 (woN f m ss[i].wher)) ∧ Below W.heap.size W w'):=Lib.hid fun W hW=>HLL.out wa wc ss[i].wher m W (XsAt.below hx hW) h8
    have HNX:Hid ((if 16777216 < IntKind.i64.wrap (1 + woN f m ss[i].wher) then IntKind.i64.wrap (1 + woN f m ss[i].wher) else wkL (woN f) m (IntKind.i64.wrap (r + IntKind.i64.wrap (m * IntKind.i64.wrap (1 + woN f m ss[i].wher)))) (ss.drop (i + 1))) = R):=Lib.hid (by
     have:=HB.out.1
     rw [List.drop_eq_getElem_cons hil,wkL_cons hr] at this
     exact this)
    clear hcs hx h4 h5 h6 h7 h8 hb
    obtain ⟨z,hz⟩:∃ z,woN f m ss[i].wher = z:=⟨_,rfl⟩
    rw [hz] at HRL HNX
    clear hz
    generalize ss[i].wher.length = wn at *
    have c3:=HCS.out _ HB.out.2
    obtain ⟨k,hk⟩:∃ k,IntKind.i64.wrap (1 + z) = k:=⟨_,rfl⟩
    rw [hk] at HNX
    go_wp2_with fail
    (with_reducible refine (HRL.out _ HB.out.2).mono ?_)
    rintro e w2 ⟨rfl,hb2⟩
    have HB2:=Lib.hid (HB.out.2.trans (hb2.mono HB.out.2.size))
    clear hb2
    by_cases hkk:16777216 < k
    ·rw [if_pos hkk] at HNX
     go_wp2_with fail
     go_ret
     exact ⟨ret_int HNX.out,HB2.out⟩
    ·rw [if_neg hkk] at HNX
     have hk2:k ≤ 16777216:=by omega
     clear hkk
     go_wp2_with fail
     go_roundw
     case rel=>exact ⟨i + 1,_,by go_num,rfl,by omega,Lib.hid ⟨(by simp only [w64_eq];exact HNX.out),HB2.out⟩⟩
     case measure=>simp [intOf];omega
   ·have hr':16777216 < r:=by omega
    have HE:Hid (r = R):=Lib.hid (by rw [← HB.out.1,wkL_stop hr'])
    go_wp2_with fail
    go_ret
    exact ⟨ret_int HE.out,HB.out.2⟩
  ·have i4:(n:Int) ≤ (i:Int):=by omega
   have HE:Hid (r = R):=Lib.hid (by rw [← HB.out.1,List.drop_of_length_le (by rw [HM.out];omega)];rfl)
   go_wp2_with fail
   go_ret
   exact ⟨ret_int HE.out,HB.out.2⟩
set_option maxRecDepth 100000 in
set_option maxHeartbeats 4000000 in
theorem works_of {f:Nat} (HL:WoX f) (HW:WkX f):WoX (f + 1):=fun a c l m w hs hn=>by
 have HS:=Lib.hid hs
 have HLL:=Lib.hid HL
 have HWW:=Lib.hid HW
 obtain ⟨R,hR⟩:∃ R,woN (f + 1) m l = R:=⟨_,rfl⟩
 rw [hR]
 have hR':capL 16777216 (woS (woN f) m) 0 l = R:=hR
 have HR:=Lib.hid hR'
 clear hs HL HW hR hR'
 obtain ⟨n,hm⟩:∃ n,l.length = n:=⟨_,rfl⟩
 rw [hm] at hn ⊢
 have HM:=Lib.hid hm
 clear hm
 go_enter Tryz.func75,Tryz.ntmps75
 go_wp2_with fail
 go_loopw [5,6] (fun kv iv wr=>∃ (i:Nat) (r:Int),iv = .int .i64 i ∧ kv = .int .i64 r ∧ i ≤ n ∧ Hid (capL 16777216 (woS (woN f) m) r (l.drop i) = R ∧ Below w.heap.size w wr)) (fun _ iv _=>n - (intOf iv).toNat)
 case atStart=>exact ⟨0,0,rfl,rfl,Nat.zero_le _,Lib.hid ⟨by rw [List.drop_zero];exact HR.out,Below.refl _ _⟩⟩
 case round =>
  obtain ⟨i,r,rfl,rfl,hin,HB⟩:=hrel
  by_cases hi:i < n
  ·have i1:(0:Int) ≤ (i:Int):=by omega
   have i2:(i:Int) < (n:Int):=by omega
   have ewi:IntKind.i64.wrap ((i:Int) + 1) = (i:Int) + 1:=IntWalk.i64_in _ (by omega)
   by_cases hr:r ≤ 16777216
   ·have hil:i < l.length:=by rw [HM.out];exact hi
    obtain ⟨b,o,xa,xc,xp,xd,rfl,hb,hxa,hxp,h4,h5,h6,h7,h8,h9,h10,h11,h12,hcs⟩:=HS.out.get i hil
    have HCS:Hid (∀ W,Below w.heap.size w W → W.cell? ⟨b,o + i * 7 + 1,none⟩ = some (.slice xa l[i].args.length xc) ∧ W.cell? ⟨b,o + i * 7 + 2,none⟩ = some (.slice xp l[i].path.length xd) ∧ Below w.heap.size w W):=Lib.hid fun W hW=>⟨(hcs W hW).2.1,(hcs W hW).2.2.1,hW⟩
    have HRL2:Hid (∀ W,Below w.heap.size w W → Calls Tryz.prog 75 #[.slice xa l[i].args.length xc,.int .i64 m] W fun e w'=>e = .returned (.int .i64 (woN f m l[i].args)) ∧ Below w.heap.size w w'):=Lib.hid fun W hW=>(HLL.out xa xc l[i].args m W (XsAt.below hxa hW) h11).mono fun e w' ⟨h1,h2⟩=>⟨h1,hW.trans (h2.mono hW.size)⟩
    have HRX2:Hid (∀ W,Below w.heap.size w W → Calls Tryz.prog 41 #[.slice xp l[i].path.length xd,.int .i64 m] W fun e w'=>e = .returned (.int .i64 (wkL (woN f) m 0 l[i].path)) ∧ Below w.heap.size w w'):=Lib.hid fun W hW=>(HWW.out xp xd l[i].path m W (SsAt.below hxp hW) h12).mono fun e w' ⟨h1,h2⟩=>⟨h1,hW.trans (h2.mono hW.size)⟩
    have HNX:Hid (capL 16777216 (woS (woN f) m) (IntKind.i64.wrap (r + IntKind.i64.wrap (IntKind.i64.wrap (1 + woN f m l[i].args) + wkL (woN f) m 0 l[i].path))) (l.drop (i + 1)) = R):=Lib.hid (by
     have:=HB.out.1
     rw [List.drop_eq_getElem_cons hil,capL_cons hr] at this
     exact this)
    clear hcs hxa hxp h4 h5 h6 h7 h8 h9 h10 h11 h12 hb
    generalize woN f m l[i].args = z1 at *
    generalize wkL (woN f) m 0 l[i].path = z2 at *
    generalize l[i].args.length = xl at *
    generalize l[i].path.length = pl at *
    have HBD:=Lib.hid (HB.out.2.drew)
    have hbd:=HBD.out
    obtain ⟨c1,c2,_⟩:=HCS.out _ hbd
    go_wp2_with fail
    go_region_held3 (fun w'=>w'.cell? ⟨b,o + i * 7 + 1,none⟩ = some (.slice xa xl xc) ∧ w'.cell? ⟨b,o + i * 7 + 2,none⟩ = some (.slice xp pl xd) ∧ Below w.heap.size w w') (first | exact HCS.out _ hbd | exact HCS.out _ ‹_›) (first | (go_at_call 75;(with_reducible refine (HRL2.out _ ‹_›).mono ?_);rintro e w5 ⟨rfl,hb5⟩) | (go_at_call 41;(with_reducible refine (HRX2.out _ ‹_›).mono ?_);rintro e w7 ⟨rfl,hb7⟩))
    have HB8:=Lib.hid hb7
    clear hb5 hb7
    go_wp2_with fail
    go_roundw
    case rel=>exact ⟨i + 1,_,by go_num,rfl,by omega,Lib.hid ⟨HNX.out,HB8.out⟩⟩
    case measure=>simp [intOf];omega
   ·have hr':16777216 < r:=by omega
    have HE:Hid (r = R):=Lib.hid (by rw [← HB.out.1,capL_stop hr'])
    go_wp2_with fail
    go_ret
    exact ⟨ret_int HE.out,HB.out.2⟩
  ·have i4:(n:Int) ≤ (i:Int):=by omega
   have HE:Hid (r = R):=Lib.hid (by rw [← HB.out.1,List.drop_of_length_le (by rw [HM.out];omega)];rfl)
   go_wp2_with fail
   go_ret
   exact ⟨ret_int HE.out,HB.out.2⟩
set_option maxRecDepth 100000 in
set_option maxHeartbeats 4000000 in
theorem works_zero:WoX 0:=fun a c l m w hs hn=>by
 obtain rfl:l = []:=XsAt.zero hs
 rw [show ([]:List PX).length = 0 from rfl,show woN 0 m [] = 0 from rfl]
 clear hs hn
 go_enter Tryz.func75,Tryz.ntmps75
 go_wp2_with fail
 go_loopw [5,6] (fun kv iv wr=>iv = .int .i64 0 ∧ kv = .int .i64 0 ∧ Hid (Below w.heap.size w wr)) (fun _ _ _=>0)
 case atStart=>exact ⟨rfl,rfl,Lib.hid (Below.refl _ _)⟩
 case round =>
  obtain ⟨rfl,rfl,HB⟩:=hrel
  go_wp2_with fail
  go_ret
  exact ⟨rfl,HB.out⟩
theorem works_all:∀ f,WoX f
 | 0=>works_zero
 | f + 1=>works_of (works_all f) (work_of (works_all f))
theorem work_all (f:Nat):WkX f:=work_of (works_all f)
set_option maxRecDepth 100000 in
set_option maxHeartbeats 4000000 in
theorem heavy_any {f:Nat} (a:Option Addr) (c:Nat) (ss:List PS) (w:World) (hs:SsAt f w a ss) (hn:ss.length ≤ 1048576) :
  Calls Tryz.prog 22 #[.agg #[.slice a ss.length c],.int .i64 120] w fun e w'=>SomeB e ∧ Below w.heap.size w w':=by
 have hb0:Below w.heap.size w (w.alloc (.cells #[.slice a ss.length c] 25)):=(Below.refl _ _).alloc (Nat.le_refl _) _
 have HB0:=Lib.hid hb0
 have HR:=Lib.hid (work_all f a c ss 121 _ (SsAt.below hs hb0) hn)
 clear hs hb0
 generalize ss.length = n at *
 generalize wkL (woN f) 121 0 ss = z at *
 go_enter Tryz.func22,Tryz.ntmps22
 go_wp2_with fail
 (with_reducible refine HR.out.mono ?_)
 rintro e w2 ⟨rfl,hb2⟩
 have HB2:=Lib.hid (HB0.out.trans (hb2.mono HB0.out.size))
 clear hb2
 go_wp2_with fail
 go_ret
 exact ⟨⟨_,rfl⟩,HB2.out⟩
set_option maxRecDepth 100000 in
set_option maxHeartbeats 4000000 in
theorem light_any {f:Nat} (a:Option Addr) (c:Nat) (ss:List PS) (w:World) (hs:SsAt f w a ss) (hn:ss.length ≤ 1048576) :
  Calls Tryz.prog 9 #[.agg #[.slice a ss.length c]] w fun e w'=>SomeB e ∧ Below w.heap.size w w':=by
 obtain ⟨W0,hW0⟩:∃ W0,W0 = w.alloc (.cells #[.slice a ss.length c] 25):=⟨_,rfl⟩
 have hb0:Below w.heap.size w W0:=by rw [hW0];exact (Below.refl _ _).alloc (Nat.le_refl _) _
 have hk5:W0.heap[w.heap.size]? = some (.cells #[.slice a ss.length c] 25 (0,0)):=by rw [hW0];exact heap_alloc_new w _
 have hsz0:W0.heap.size = w.heap.size + 1:=by rw [hW0];simp
 have HKS:Hid (∀ W,Below W0.heap.size W0 W → W.cell? ⟨w.heap.size,0,none⟩ = some (.slice a ss.length c)):=Lib.hid fun W hW=>by
  rw [cell_heap ((hW.block w.heap.size (by omega)).trans hk5)];rfl
 have HB0:=Lib.hid hb0
 have HR:=Lib.hid (weight_all f a c ss 0 _ (SsAt.below hs hb0) hn)
 have HV:Hid (∀ W,Below W0.heap.size W0 W → Calls Tryz.prog 22 #[.agg #[.slice a ss.length c],.int .i64 120] W fun e w'=>SomeB e ∧ Below W.heap.size W w'):=Lib.hid fun W hW=>heavy_any a c ss W (SsAt.below hs (hb0.trans (hW.mono hb0.size))) hn
 have HW0E:=Lib.hid hW0
 clear hs hb0 hW0 hk5 hsz0
 generalize ss.length = n at *
 generalize wtN (exN f) 0 ss = z at *
 go_enter Tryz.func9,Tryz.ntmps9
 go_wp2_with fail
 rw [← HW0E.out]
 have c0:=HKS.out W0 (Below.refl _ _)
 by_cases hz:z ≤ 60
 ·go_wp2_with fail
  (with_reducible refine HR.out.mono ?_)
  rintro e w2 ⟨rfl,hb2⟩
  have c1:=HKS.out w2 hb2
  have HHV:=Lib.hid (HV.out w2 hb2)
  have HB2:=Lib.hid (HB0.out.trans (hb2.mono HB0.out.size))
  clear hb2
  go_wp2_with fail
  (with_reducible refine HHV.out.mono ?_)
  rintro e w3 ⟨⟨b,rfl⟩,hb3⟩
  have HB3:=Lib.hid (HB2.out.trans (hb3.mono HB2.out.size))
  clear hb3
  go_wp2_with fail
  go_ret
  exact ⟨⟨_,rfl⟩,HB3.out⟩
 ·have hz':60 < z:=by omega
  go_wp2_with fail
  (with_reducible refine HR.out.mono ?_)
  rintro e w2 ⟨rfl,hb2⟩
  have HB2:=Lib.hid (HB0.out.trans (hb2.mono HB0.out.size))
  clear hb2
  go_wp2_with fail
  go_ret
  exact ⟨⟨_,rfl⟩,HB2.out⟩
end Go.Proofs.YtgjokdngbocehaaGreatDoor
namespace Go.Proofs.YtgjokdngbocehaaGreatDoor
open Go.RowKit
def isOpn (s:BegS) (i:Int):Prop:=∃ o ∈ s.opn,o.1 = i
def topOf (l:List (Int × Int × List UInt8)):Int:=(l.head?.map (·.1)).getD (-1)
structure NdAx (s:BegS) (nds:List Nd):Prop where
 par:∀ a r,(a :: r) <:+ s.opn → ∃ x,nds[a.1.toNat]? = some x ∧ x.par = topOf r
 first:∀ (i:Nat) (x y:Nd),nds[i]? = some x → nds[i + 1]? = some y → (isOpn s i ∨ (i:Int) + 1 ≤ x.last) → y.par = (i:Int)
 sib:∀ (k:Nat) (x y:Nd),nds[k]? = some x → ¬ isOpn s k → nds[(x.last + 1).toNat]? = some y → (x.par = -1 ∨ isOpn s x.par ∨ ∃ p,nds[x.par.toNat]? = some p ∧ x.last + 1 ≤ p.last) → y.par = x.par
 ins:∀ (k:Nat) (x:Nd),nds[k]? = some x → ¬ isOpn s k → 0 ≤ x.par → ∃ p,nds[x.par.toNat]? = some p ∧ (isOpn s x.par ∨ x.last ≤ p.last)
 top:∀ (k:Nat) (x:Nd),nds[k]? = some x → ¬ isOpn s k → x.last + 1 = (nds.length:Int) → x.par = topOf s.opn ∨ (0 ≤ x.par ∧ ¬ isOpn s x.par ∧ ∃ p,nds[x.par.toNat]? = some p ∧ p.last + 1 = (nds.length:Int))
 plt:∀ (k:Nat) (x:Nd),nds[k]? = some x → -1 ≤ x.par ∧ x.par < (k:Int)
 root:∀ (x:Nd),nds[0]? = some x → x.par = -1
theorem NdAx.start:NdAx beg0 [] :=
 ⟨fun a r h=>by simp [beg0] at h,fun i x y h=>by simp at h,fun i x y h=>by simp at h,fun i x h=>by simp at h,fun i x h=>by simp at h,fun i x h=>by simp at h,fun x h=>by simp at h⟩
theorem topOf_lt {pre:List Ev} {s:BegS} {nds:List Nd} (h:NdInv pre s nds):-1 ≤ topOf s.opn ∧ topOf s.opn < (nds.length:Int) ∧ (topOf s.opn = -1 ∨ isOpn s (topOf s.opn)):=by
 cases ho:s.opn with
 | nil=>simp [topOf];omega
 | cons a r =>
  have ha:a ∈ s.opn:=by rw [ho];exact List.mem_cons_self
  have:=h.opn a ha
  have hn:=h.nxt
  refine ⟨by simp [topOf];omega,by simp [topOf];omega,.inr ⟨a,ha,by simp [topOf]⟩⟩
theorem NdAx.step {pre:List Ev} {s:BegS} {nds:List Nd} {e:Ev} (hi:NdInv pre s nds) (hl:NdLast nds) (h:NdAx s nds) (he:begOk s e = true):NdAx (begNext s e) (ndNext s nds e):=by
 have hnx:=hi.nxt
 by_cases hk:e.kind = 2
 ·have hh:=begOk_close he hk
  obtain ⟨rest,hr⟩:∃ rest,s.opn = (e.num,e.dep,e.name) :: rest:=by
   cases ho:s.opn with
   | nil=>rw [ho] at hh;cases hh
   | cons a r=>rw [ho] at hh;simp at hh;exact ⟨r,by rw [hh]⟩
  have hnum:=hi.opn _ (by rw [hr];exact List.mem_cons_self)
  simp only at hnum
  have hop:(begNext s e).opn = rest:=by unfold begNext;simp [hk,hr]
  have hsrt:=hi.srt
  rw [hr] at hsrt
  have hp:=List.pairwise_cons.1 hsrt
  have hopn:∀ i,isOpn s i ↔ i = e.num ∨ isOpn (begNext s e) i:=by
   intro i
   unfold isOpn
   rw [hop,hr]
   constructor
   ·rintro ⟨o,ho,rfl⟩
    rcases List.mem_cons.1 ho with rfl | ho
    ·exact .inl rfl
    ·exact .inr ⟨o,ho,rfl⟩
   ·rintro (rfl | ⟨o,ho,rfl⟩)
    ·exact ⟨_,List.mem_cons_self,rfl⟩
    ·exact ⟨o,List.mem_cons_of_mem _ ho,rfl⟩
  have hnot:¬ isOpn (begNext s e) e.num:=by
   rintro ⟨o,ho,hoe⟩
   rw [hop] at ho
   have:=hp.1 o ho
   simp only at this
   omega
  have hm:∀ (n:Nat) (x:Nd),(ndNext s nds e)[n]? = some x → ∃ y,nds[n]? = some y ∧ x.par = y.par ∧ (((n:Int) = e.num ∧ x.last = (nds.length:Int) - 1) ∨ ((n:Int) ≠ e.num ∧ x.last = y.last)):=by
   intro n x hx
   unfold ndNext at hx
   rw [if_pos hk,List.getElem?_modify] at hx
   cases hy:nds[n]? with
   | none=>rw [hy] at hx;simp at hx
   | some y =>
    rw [hy] at hx
    by_cases hn:e.num.toNat = n
    ·simp [hn] at hx;subst hx;exact ⟨y,rfl,rfl,.inl ⟨by omega,rfl⟩⟩
    ·simp [hn] at hx;subst hx;exact ⟨y,rfl,rfl,.inr ⟨by omega,rfl⟩⟩
  have hm2:∀ (n:Nat) (y:Nd),nds[n]? = some y → ∃ x,(ndNext s nds e)[n]? = some x ∧ x.par = y.par ∧ (((n:Int) = e.num ∧ x.last = (nds.length:Int) - 1) ∨ ((n:Int) ≠ e.num ∧ x.last = y.last)):=by
   intro n y hy
   unfold ndNext
   rw [if_pos hk,List.getElem?_modify,hy]
   by_cases hn:e.num.toNat = n
   ·exact ⟨⟨y.pos,y.par,(nds.length:Int) - 1,s.cnt + 1⟩,by simp [hn],rfl,.inl ⟨by omega,rfl⟩⟩
   ·exact ⟨y,by simp [hn],rfl,.inr ⟨by omega,rfl⟩⟩
  have hlen:(ndNext s nds e).length = nds.length:=by unfold ndNext;rw [if_pos hk,List.length_modify]
  obtain ⟨xt,hxt,hxtp⟩:=h.par (e.num,e.dep,e.name) rest (by rw [hr];exact List.suffix_rfl)
  simp only at hxt
  refine ⟨?_,?_,?_,?_,?_,?_,?_⟩
  ·intro a r hs
   rw [hop] at hs
   obtain ⟨x,hx,hxp⟩:=h.par a r (by rw [hr];exact hs.trans (List.suffix_cons _ _))
   obtain ⟨x',hx',hp',_⟩:=hm2 _ _ hx
   exact ⟨x',hx',by rw [hp',hxp]⟩
  ·intro i x' y' hx' hy' hc
   obtain ⟨x,hx,hxp,hxl⟩:=hm i x' hx'
   obtain ⟨y,hy,hyp,_⟩:=hm _ y' hy'
   rw [hyp]
   refine h.first i x y hx hy ?_
   rcases hxl with ⟨h1,_⟩ | ⟨_,h2⟩
   ·exact .inl ((hopn _).2 (.inl h1))
   ·rcases hc with hc | hc
    ·exact .inl ((hopn _).2 (.inr hc))
    ·exact .inr (by omega)
  ·intro k x' y' hx' hno hy' hc
   obtain ⟨x,hx,hxp,hxl⟩:=hm k x' hx'
   obtain ⟨y,hy,hyp,_⟩:=hm _ y' hy'
   have hyl:=get_lt hy
   rcases hxl with ⟨h1,h2⟩ | ⟨h1,h2⟩
   ·omega
   ·rw [hyp,hxp]
    rw [h2] at hy
    refine h.sib k x y hx ?_ hy ?_
    ·intro hc'
     rcases (hopn _).1 hc' with h3 | h3
     ·exact h1 h3
     ·exact hno h3
    ·rw [hxp] at hc
     rcases hc with hc | hc | ⟨p',hp',hpl⟩
     ·exact .inl hc
     ·exact .inr (.inl ((hopn _).2 (.inr hc)))
     ·obtain ⟨p,hp0,_,hpl0⟩:=hm _ p' hp'
      have hxge:=h.plt k x hx
      by_cases hneg:x.par = -1
      ·exact .inl hneg
      rcases hpl0 with ⟨h3,h4⟩ | ⟨h3,h4⟩
      ·exact .inr (.inl ((hopn _).2 (.inl (by omega))))
      ·exact .inr (.inr ⟨p,hp0,by omega⟩)
  ·intro k x' hx' hno h0
   obtain ⟨x,hx,hxp,hxl⟩:=hm k x' hx'
   rw [hxp] at h0 ⊢
   rcases hxl with ⟨h1,h2⟩ | ⟨h1,h2⟩
   ·have hkn:e.num.toNat = k:=by omega
    rw [hkn] at hxt
    obtain rfl:xt = x:=by rw [hxt] at hx;exact Option.some.inj hx
    cases rest with
    | nil=>rw [hxtp] at h0;simp [topOf] at h0
    | cons b r2 =>
     have hb:xt.par = b.1:=by rw [hxtp];simp [topOf]
     obtain ⟨p,hp1,_⟩:=h.par b r2 (by rw [hr];exact List.suffix_cons _ _)
     obtain ⟨p',hp',_⟩:=hm2 _ _ hp1
     exact ⟨p',by rw [hb];exact hp',.inl ⟨b,by rw [hop];exact List.mem_cons_self,hb.symm⟩⟩
   ·have hno':¬ isOpn s k:=by
     intro hc'
     rcases (hopn _).1 hc' with h3 | h3
     ·exact h1 h3
     ·exact hno h3
    obtain ⟨p,hp1,hpo⟩:=h.ins k x hx hno' h0
    obtain ⟨p',hp',_,hpl⟩:=hm2 _ _ hp1
    refine ⟨p',hp',?_⟩
    have hxl:=(hl k x hx).2
    rcases hpl with ⟨h3,h4⟩ | ⟨h3,h4⟩
    ·exact .inr (by omega)
    ·rcases hpo with hpo | hpo
     ·rcases (hopn _).1 hpo with h5 | h5
      ·omega
      ·exact .inl h5
     ·exact .inr (by omega)
  ·intro k x' hx' hno hlast
   rw [hlen] at hlast ⊢
   rw [hop]
   obtain ⟨x,hx,hxp,hxl⟩:=hm k x' hx'
   rw [hxp]
   rcases hxl with ⟨h1,h2⟩ | ⟨h1,h2⟩
   ·have hkn:e.num.toNat = k:=by omega
    rw [hkn] at hxt
    obtain rfl:xt = x:=by rw [hxt] at hx;exact Option.some.inj hx
    exact .inl hxtp
   ·have hno':¬ isOpn s k:=by
     intro hc'
     rcases (hopn _).1 hc' with h3 | h3
     ·exact h1 h3
     ·exact hno h3
    rcases h.top k x hx hno' (by omega) with h3 | ⟨h3,h4,p,hp1,hp2⟩
    ·have h4:x.par = e.num:=by rw [h3,hr];simp [topOf]
     obtain ⟨p',hp',_,hpl⟩:=hm2 _ _ hxt
     refine .inr ⟨by omega,by rw [h4];exact hnot,p',by rw [h4];exact hp',?_⟩
     rcases hpl with ⟨_,h6⟩ | ⟨h5,_⟩
     ·omega
     ·omega
    ·obtain ⟨p',hp',_,hpl⟩:=hm2 _ _ hp1
     refine .inr ⟨h3,fun hc=>h4 ((hopn _).2 (.inr hc)),p',hp',?_⟩
     rcases hpl with ⟨h5,_⟩ | ⟨_,h6⟩
     ·exact absurd ((hopn _).2 (.inl (by omega))) h4
     ·omega
  ·intro k x' hx'
   obtain ⟨x,hx,hxp,_⟩:=hm k x' hx'
   rw [hxp]
   exact h.plt k x hx
  ·intro x' hx'
   obtain ⟨x,hx,hxp,_⟩:=hm 0 x' hx'
   rw [hxp]
   exact h.root x hx
 ·obtain ⟨hn,hk01⟩:=begOk_new he hk
  have hnd:ndNext s nds e = nds ++ [⟨s.cnt,topOf s.opn,e.num,s.cnt + 1⟩]:=by unfold ndNext;rw [if_neg hk];rfl
  rw [hnd]
  have htop:=topOf_lt hi
  have hopn:∀ i,isOpn (begNext s e) i ↔ isOpn s i ∨ (e.kind = 0 ∧ i = (nds.length:Int)):=by
   intro i
   unfold isOpn begNext
   simp only [hk,if_false]
   by_cases h0:e.kind = 0
   ·simp only [h0,if_true,true_and]
    constructor
    ·rintro ⟨o,ho,rfl⟩
     rcases List.mem_cons.1 ho with rfl | ho
     ·exact .inr (by simp only;omega)
     ·exact .inl ⟨o,ho,rfl⟩
    ·rintro (⟨o,ho,rfl⟩ | rfl)
     ·exact ⟨o,List.mem_cons_of_mem _ ho,rfl⟩
     ·exact ⟨_,List.mem_cons_self,by simp only;omega⟩
   ·simp [h0]
  have hlt:∀ i,isOpn s i → 0 ≤ i ∧ i < (nds.length:Int):=by
   rintro i ⟨o,ho,rfl⟩
   have:=hi.opn o ho
   omega
  refine ⟨?_,?_,?_,?_,?_,?_,?_⟩
  ·intro a r hs
   have hs':(a :: r) <:+ s.opn ∨ (e.kind = 0 ∧ a.1 = e.num ∧ r = s.opn):=by
    unfold begNext at hs
    simp only [hk,if_false] at hs
    by_cases h0:e.kind = 0
    ·rw [if_pos h0] at hs
     rcases List.suffix_cons_iff.1 hs with h1 | h1
     ·simp only [List.cons.injEq] at h1
      exact .inr ⟨h0,by rw [h1.1],h1.2⟩
     ·exact .inl h1
    ·rw [if_neg h0] at hs;exact .inl hs
   rcases hs' with h1 | ⟨_,h1,rfl⟩
   ·obtain ⟨x,hx,hxp⟩:=h.par a r h1
    exact ⟨x,get_snoc hx,hxp⟩
   ·exact ⟨⟨s.cnt,topOf s.opn,e.num,s.cnt + 1⟩,by rw [show a.1.toNat = nds.length by omega];exact get_last _ _,rfl⟩
  ·intro i x y hx hy hc
   rcases snoc_get hy with ⟨hil,hy⟩ | ⟨hil,rfl⟩
   ·rcases snoc_get hx with ⟨_,hx⟩ | ⟨hx,_⟩
    ·refine h.first i x y hx hy ?_
     rcases hc with hc | hc
     ·rcases (hopn _).1 hc with h1 | ⟨_,h1⟩
      ·exact .inl h1
      ·omega
     ·exact .inr hc
    ·omega
   ·rcases snoc_get hx with ⟨_,hx⟩ | ⟨hx,_⟩
    ·have hxl:=(hl i x hx).2
     rcases hc with hc | hc
     ·rcases (hopn _).1 hc with ⟨o,ho,hoi⟩ | ⟨_,h1⟩
      ·cases hs:s.opn with
       | nil=>rw [hs] at ho;cases ho
       | cons b r =>
        have hsrt:=hi.srt
        rw [hs] at hsrt
        have hb:=hi.opn b (by rw [hs];exact List.mem_cons_self)
        rw [hs] at ho
        simp only [topOf,List.head?_cons,Option.map_some,Option.getD_some]
        rcases List.mem_cons.1 ho with rfl | ho
        ·exact hoi
        ·have:=(List.pairwise_cons.1 hsrt).1 o ho
         omega
      ·omega
     ·omega
    ·omega
  ·intro k x y hx hno hy hc
   rcases snoc_get hx with ⟨hkl,hx⟩ | ⟨hkl,rfl⟩
   ·have hno':¬ isOpn s k:=fun hc'=>hno ((hopn _).2 (.inl hc'))
    have hxl:=hl k x hx
    have hxp:=h.plt k x hx
    have hcs:x.par = -1 ∨ isOpn s x.par ∨ ∃ p,nds[x.par.toNat]? = some p ∧ x.last + 1 ≤ p.last:=by
     rcases hc with hc | hc | ⟨p,hp,hpl⟩
     ·exact .inl hc
     ·rcases (hopn _).1 hc with h1 | ⟨_,h1⟩
      ·exact .inr (.inl h1)
      ·omega
     ·by_cases hneg:x.par = -1
      ·exact .inl hneg
      rcases snoc_get hp with ⟨_,hp⟩ | ⟨hp,_⟩
      ·exact .inr (.inr ⟨p,hp,hpl⟩)
      ·omega
    rcases snoc_get hy with ⟨_,hy⟩ | ⟨hyl,rfl⟩
    ·exact h.sib k x y hx hno' hy hcs
    ·rcases h.top k x hx hno' (by omega) with h1 | ⟨h1,h2,p,hp,hpl⟩
     ·exact h1.symm
     ·rcases hcs with h3 | h3 | ⟨q,hq,hql⟩
      ·omega
      ·exact absurd h3 h2
      ·rw [hp] at hq
       obtain rfl:=Option.some.inj hq
       omega
   ·have:=get_lt hy
    rw [List.length_append,List.length_singleton] at this
    simp only at this
    omega
  ·intro k x hx hno h0
   rcases snoc_get hx with ⟨hkl,hx⟩ | ⟨hkl,rfl⟩
   ·obtain ⟨p,hp,hpo⟩:=h.ins k x hx (fun hc'=>hno ((hopn _).2 (.inl hc'))) h0
    refine ⟨p,get_snoc hp,?_⟩
    rcases hpo with hpo | hpo
    ·exact .inl ((hopn _).2 (.inl hpo))
    ·exact .inr hpo
   ·simp only at h0 ⊢
    rcases htop.2.2 with h1 | h1
    ·omega
    ·have hlt':(topOf s.opn).toNat < nds.length:=by omega
     exact ⟨_,get_snoc (List.getElem?_eq_getElem hlt'),.inl ((hopn _).2 (.inl h1))⟩
  ·intro k x hx hno hlast
   rw [List.length_append,List.length_singleton] at hlast ⊢
   rcases snoc_get hx with ⟨hkl,hx⟩ | ⟨hkl,rfl⟩
   ·have:=hl k x hx
    omega
   ·refine .inl ?_
    have h0:e.kind ≠ 0:=fun h0=>hno ((hopn _).2 (.inr ⟨h0,by omega⟩))
    unfold begNext
    simp only [hk,h0,if_false]
  ·intro k x hx
   rcases snoc_get hx with ⟨hkl,hx⟩ | ⟨hkl,rfl⟩
   ·exact h.plt k x hx
   ·simp only
    omega
  ·intro x hx
   rcases snoc_get hx with ⟨hkl,hx⟩ | ⟨hkl,rfl⟩
   ·exact h.root x hx
   ·simp only
    omega
theorem NdAx.all {pre:List Ev} {s:BegS} {nds:List Nd} (hi:NdInv pre s nds) (hl:NdLast nds) (h:NdAx s nds):∀ (l:List Ev) {t:BegS},begAll s l = some t → NdAx t (ndAll s nds l):=by
 intro l
 induction l generalizing pre s nds with
 | nil=>intro t ht;simp only [begAll,Option.some.injEq] at ht;subst ht;exact h
 | cons e l ih =>
  intro t ht
  unfold begAll at ht
  split at ht
  ·rename_i he
   exact ih (hi.step he) (hl.step hi he) (h.step hi hl he) ht
  ·cases ht
theorem nodesB_ax {l:List Ev} {t:BegS} (h:begAll beg0 l = some t):NdAx t (nodesB l) :=
 NdAx.all NdInv.start (fun n x hx=>by simp at hx) NdAx.start l h
def hiP (L:Nat) (f:Nat → Nat) (n:Int):Nat:=if n < 0 then L else f n.toNat + 1
structure AxF (L:Nat) (f:Nat → Nat) (p:Nat → Int):Prop where
 rng:∀ i,i < L → i ≤ f i ∧ f i < L
 root:0 < L → p 0 = -1
 plt:∀ k,k < L → -1 ≤ p k ∧ p k < k
 first:∀ i,i < L → i + 1 ≤ f i → p (i + 1) = i
 sib:∀ k,k < L → f k + 1 < hiP L f (p k) → p (f k + 1) = p k
 ins:∀ k,k < L → f k < hiP L f (p k)
end Go.Proofs.YtgjokdngbocehaaGreatDoor
namespace Go.Proofs.YtgjokdngbocehaaGreatDoor
open Go.RowKit
theorem own_ne {w:World} {B B' n n' size size':Nat} {e e':TypeId} {v v':Value} {xs xs':List Value} (h:w.ownsRow B e size v n xs) (h':w.ownsRow B' e' size' v' n' xs') (he:e ≠ e'):∀ k,v.ownBlock = some k → v'.ownBlock ≠ some k:=by
 intro k hk hk'
 rcases h.2 with ⟨rfl,_⟩ | ⟨g,cap,cur,rfl,_,hg,_⟩
 ·cases hk
 ·cases hk
  rcases h'.2 with ⟨rfl,_⟩ | ⟨g',cap',cur',rfl,_,hg',_⟩
  ·cases hk'
  ·cases hk'
   rw [hg] at hg'
   cases hg'
   exact he rfl
theorem own_not {w:World} {B n size k:Nat} {e e':TypeId} {v:Value} {xs:List Value} {c:Array Value} {fz:Nat × Nat} (h:w.ownsRow B e size v n xs) (hk:w.heap[k]? = some (.cells c e' fz)) (he:e ≠ e'):v.ownBlock ≠ some k:=by
 intro e
 rcases h.2 with ⟨rfl,_⟩ | ⟨g,cap,cur,rfl,_,hg,_⟩
 ·cases e
 ·cases e
  rw [hk] at hg
  cases hg
  exact he rfl
variable {wc W W':World} {cb ge n:Nat} {evs:List Ev} {sC sC' s s':BegS} {nds nds':List Nd} {vC vC' vN vN' vO vO':Value}
end Go.Proofs.YtgjokdngbocehaaGreatDoor
namespace Go.Proofs.YtgjokdngbocehaaGreatDoor
open Go.RowKit Go.Shelf
attribute [local go_sem] Oper.semAt_some
def stepsF (g:Nat → Nat) (hi:Nat):Nat → Nat → List Int
 | 0,_=>[]
 | m + 1,k=>if k < hi then (k:Int) :: stepsF g hi m (g k) else []
def hiOf (L:Nat) (f:Nat → Nat) (n:Int):Nat:=if n < 0 then L else f n.toNat + 1
def nextOf (f:Nat → Nat) (a:Int) (k:Nat):Nat:=if a = 0 then f k + 1 else k + 1
def alongM (L:Nat) (f:Nat → Nat) (n a:Int):List Int :=
 if n < -1 ∨ (L:Int) ≤ n ∨ a < 0 ∨ 3 < a then []
 else (if a = 2 ∨ a = 3 then [n] else []) ++ (if a = 3 then [] else stepsF (nextOf f a) (hiOf L f n) L (n + 1).toNat)
end Go.Proofs.YtgjokdngbocehaaGreatDoor
namespace Go.Proofs.YtgjokdngbocehaaGreatDoor
open Go.RowKit Go.Shelf
attribute [local go_sem] Oper.semAt_some
theorem stepsF_at {g:Nat → Nat} {hi m k:Nat} (h:k < hi) (hm:hi ≤ k + m):stepsF g hi m k = (k:Int) :: stepsF g hi (m - 1) (g k):=by
 cases m with
 | zero=>omega
 | succ m=>show (if k < hi then (k:Int) :: stepsF g hi m (g k) else []) = _;rw [if_pos h];rfl
theorem stepsF_end {g:Nat → Nat} {hi m k:Nat} (h:hi ≤ k):stepsF g hi m k = []:=by
 cases m with
 | zero=>rfl
 | succ m=>show (if k < hi then (k:Int) :: stepsF g hi m (g k) else []) = _;rw [if_neg (by omega)]
end Go.Proofs.YtgjokdngbocehaaGreatDoor
namespace Go.Proofs.YtgjokdngbocehaaGreatDoor
open Go.RowKit
theorem flat_len {α:Type} (f:α → List UInt8) (N:Nat) (l:List α) (h:∀ x ∈ l,(f x).length ≤ N):(l.flatMap f).length ≤ l.length * N:=by
 induction l with
 | nil=>simp
 | cons x l ih =>
  rw [List.flatMap_cons,List.length_append,List.length_cons,Nat.succ_mul]
  have h1:=h x List.mem_cons_self
  have h2:=ih (fun y hy=>h y (List.mem_cons_of_mem _ hy))
  omega
set_option maxRecDepth 1000000 in
set_option maxHeartbeats 4000000 in
theorem print9_any (a:Option Addr) (n c p q:Nat) (evs:List Ev) (w:World) (hE:EvsAt w a n evs) (hn:n ≤ 1048576) (hpq:p ≤ q) (hq:q ≤ n)
  (hP:∀ e ∈ evs,∀ W A m c,AttrsAt W A m e.ats → Calls Tryz.prog 104 #[.agg (evC e.kind e.num e.dep e.name A m c e.text e.fr e.tt)] W fun r w'=>r = .returned (.string (strL (evOut e))) ∧ Below W.heap.size W w')
  (hL:∀ e ∈ evs,(evOut e).length ≤ 134217728) :
  Calls Tryz.prog 73 #[.slice a n c,.int .i64 (p:Nat),.int .i64 ((q:Int) - 1)] w fun e w'=>e = .returned (.string (strL (((evs.take q).drop p).flatMap evOut))) ∧ Below w.heap.size w w':=by
 have HE:=Lib.hid hE
 have HN:Hid (n = evs.length):=Lib.hid hE.1
 have HP:=Lib.hid hP
 have HL:=Lib.hid hL
 clear hE hP hL
 go_enter Tryz.func73,Tryz.ntmps73
 go_wp2_with fail
 have hLt:∀ i,(((evs.take i).drop p).flatMap evOut).length ≤ 1048576 * 134217728:=fun i=>by
  have h1:=flat_len evOut 134217728 ((evs.take i).drop p) (fun x hx=>HL.out x (List.mem_of_mem_take (List.mem_of_mem_drop hx)))
  have h2:((evs.take i).drop p).length ≤ 1048576:=by rw [List.length_drop,List.length_take];have:=HN.out;omega
  exact Nat.le_trans h1 (Nat.mul_le_mul_right _ h2)
 have HLT:=Lib.hid hLt
 clear hLt
 go_loopw [7,8] (fun sv iv wr=>∃ (i:Nat) (s0:List UInt8),iv = .int .i64 i ∧ p ≤ i ∧ i ≤ q ∧ sv = .string (strL s0) ∧ Hid (s0 = ((evs.take i).drop p).flatMap evOut ∧ Below w.heap.size w wr)) (fun _ iv _=>q - (intOf iv).toNat)
 case atStart=>exact ⟨p,[],rfl,Nat.le_refl _,hpq,rfl,Lib.hid ⟨by simp,Below.refl _ _⟩⟩
 case round =>
  obtain ⟨i,s0,rfl,hpi,hiq,rfl,HR⟩:=hrel
  by_cases hi:i < q
  ·have hil:i < evs.length:=by rw [← HN.out];omega
   obtain ⟨b,o,A,m,c2,rfl,_,_,hA,k0⟩:=HE.out.at8 i hil
   obtain ⟨e0,e1,e2,e3,e4,e5,e6,e7⟩:=k0 wr HR.out.2
   have HPK:=Lib.hid (HP.out _ (List.getElem_mem hil) wr A m c2 (hA.below HR.out.2))
   have hl1:=HL.out _ (List.getElem_mem hil)
   have hl0:s0.length ≤ 1048576 * 134217728:=by rw [HR.out.1];exact HLT.out i
   have hst:((evs.take (i + 1)).drop p).flatMap evOut = ((evs.take i).drop p).flatMap evOut ++ evOut evs[i]:=by
    rw [List.take_succ_eq_append_getElem hil,List.drop_append_of_le_length (by rw [List.length_take];omega),List.flatMap_append]
    simp
   obtain ⟨s1,h1⟩:∃ s1,s0 ++ evOut evs[i] = s1:=⟨_,rfl⟩
   have HS1:Hid (s1 = ((evs.take (i + 1)).drop p).flatMap evOut):=Lib.hid (by rw [hst,← h1,HR.out.1])
   have c1:∀ W,(Op.stringOp .add (strL s0) (strL (evOut evs[i]))).run Tryz.prog W = .ok (.string (strL s1)) W:=fun W=>by rw [← h1];exact run_catL s0 _ (by omega) W
   have i1:(0:Int) ≤ (i:Int):=by omega
   have i2:(i:Int) < (n:Int):=by omega
   have i3:(i:Int) ≤ (q:Int) - 1:=by omega
   have ew:IntKind.i64.wrap ((i:Int) + 1) = (i:Int) + 1:=IntWalk.i64_in _ (by omega)
   clear hst h1 hA k0
   unfold evC at HPK
   generalize evOut evs[i] = pc at *
   generalize evs[i] = ev at *
   go_wp2_with fail
   (with_reducible refine HPK.out.mono ?_)
   rintro e w2 ⟨rfl,hb2⟩
   have HB2:=Lib.hid (HR.out.2.trans (hb2.mono HR.out.2.size))
   clear hb2
   go_wp2_with fail
   go_roundw
   case rel=>exact ⟨i + 1,s1,by go_num,by omega,by omega,rfl,Lib.hid ⟨HS1.out,HB2.out⟩⟩
   case measure=>simp [intOf];omega
  ·have hiq2:i = q:=by omega
   subst hiq2
   have i3:(i:Int) - 1 < (i:Int):=by omega
   go_wp2_with fail
   go_ret
   exact ⟨by rw [← HR.out.1];rfl,HR.out.2⟩
end Go.Proofs.YtgjokdngbocehaaGreatDoor
