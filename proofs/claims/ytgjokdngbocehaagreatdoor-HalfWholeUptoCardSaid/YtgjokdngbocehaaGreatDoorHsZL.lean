/-
  gimletref12.work, works, Heavy; gimletlaw12.light: it says something, whatever comes.
-/
import Derived.Test.YtgjokdngbocehaaGreatDoorHsA
import Derived.Test.YtgjokdngbocehaaGreatDoorHsD
import Derived.Test.YtgjokdngbocehaaGreatDoorHsE
import Derived.Test.YtgjokdngbocehaaGreatDoorHsL
import Derived.Test.YtgjokdngbocehaaGreatDoorHsN
import Derived.Test.YtgjokdngbocehaaGreatDoorHsU
import Derived.Test.YtgjokdngbocehaaGreatDoorHsZC
import Derived.Test.YtgjokdngbocehaaGreatDoorHsZE
import Derived.Test.YtgjokdngbocehaaGreatDoorHsZG
import Derived.Test.YtgjokdngbocehaaGreatDoorHsZK
namespace Go.Proofs.YtgjokdngbocehaaGreatDoor
open Go.RowKit
def SomeB (e:Ending):Prop:=∃ b,e = .returned (.bool b)
def wkL (g:Int → List PX → Int) (m:Int):Int → List PS → Int
 | n,[]=>n
 | n,s :: r=>if n ≤ 16777216 then (if 16777216 < IntKind.i64.wrap (1 + g m s.wher) then IntKind.i64.wrap (1 + g m s.wher) else wkL g m (IntKind.i64.wrap (n + IntKind.i64.wrap (m * IntKind.i64.wrap (1 + g m s.wher)))) r) else n
theorem wkL_stop {g:Int → List PX → Int} {m n:Int} (hn:16777216 < n) (l:List PS):wkL g m n l = n:=by
 cases l with
 | nil=>rfl
 | cons x r=>exact if_neg (by omega)
theorem wkL_cons {g:Int → List PX → Int} {m n:Int} (hn:n ≤ 16777216) (s:PS) (r:List PS):wkL g m n (s :: r) = if 16777216 < IntKind.i64.wrap (1 + g m s.wher) then IntKind.i64.wrap (1 + g m s.wher) else wkL g m (IntKind.i64.wrap (n + IntKind.i64.wrap (m * IntKind.i64.wrap (1 + g m s.wher)))) r:=if_pos hn
def woS (g:Int → List PX → Int) (m:Int) (x:PX) (n:Int):Int:=IntKind.i64.wrap (n + IntKind.i64.wrap (IntKind.i64.wrap (1 + g m x.args) + wkL g m 0 x.path))
def woN:Nat → Int → List PX → Int
 | 0,_,_=>0
 | f + 1,m,l=>capL 16777216 (woS (woN f) m) 0 l
def WkX (f:Nat):Prop:=∀ (a:Option Addr) (c:Nat) (ss:List PS) (m:Int) (W:World),SsAt f W a ss → ss.length ≤ 1048576 →
 Calls Tryz.prog 41 #[.slice a ss.length c,.int .i64 m] W fun e w'=>e = .returned (.int .i64 (wkL (woN f) m 0 ss)) ∧ Below W.heap.size W w'
def WoX (f:Nat):Prop:=∀ (a:Option Addr) (c:Nat) (l:List PX) (m:Int) (W:World),XsAt f W a l → l.length ≤ 1048576 →
 Calls Tryz.prog 75 #[.slice a l.length c,.int .i64 m] W fun e w'=>e = .returned (.int .i64 (woN f m l)) ∧ Below W.heap.size W w'
set_option maxRecDepth 100000 in
set_option maxHeartbeats 4000000 in
theorem work_of {f:Nat} (HL:WoX f):WkX f:=fun a c ss m w hs hn=>by
 have HS:=Lib.hid hs
 have HLL:=Lib.hid HL
 obtain ⟨R,hR⟩:∃ R,wkL (woN f) m 0 ss = R:=⟨_,rfl⟩
 rw [hR]
 have HR:=Lib.hid hR
 clear hs HL hR
 obtain ⟨n,hm⟩:∃ n,ss.length = n:=⟨_,rfl⟩
 rw [hm] at hn ⊢
 have HM:=Lib.hid hm
 clear hm
 go_enter Tryz.func41,Tryz.ntmps41
 go_wp2_with fail
 go_loopw [5,6] (fun kv iv wr=>∃ (i:Nat) (r:Int),iv = .int .i64 i ∧ kv = .int .i64 r ∧ i ≤ n ∧ Hid (wkL (woN f) m r (ss.drop i) = R ∧ Below w.heap.size w wr)) (fun _ iv _=>n - (intOf iv).toNat)
 case atStart=>exact ⟨0,0,rfl,rfl,Nat.zero_le _,Lib.hid ⟨by rw [List.drop_zero];exact HR.out,Below.refl _ _⟩⟩
 case round =>
  obtain ⟨i,r,rfl,rfl,hin,HB⟩:=hrel
  by_cases hi:i < n
  ·have i1:(0:Int) ≤ (i:Int):=by omega
   have i2:(i:Int) < (n:Int):=by omega
   have ewi:IntKind.i64.wrap ((i:Int) + 1) = (i:Int) + 1:=IntWalk.i64_in _ (by omega)
   by_cases hr:r ≤ 16777216
   ·have hil:i < ss.length:=by rw [HM.out];exact hi
    obtain ⟨b,o,wa,wc,rfl,hb,hx,h4,h5,h6,h7,h8,hcs⟩:=HS.out.get i hil
    have HCS:Hid (∀ W,Below w.heap.size w W → W.cell? ⟨b,o + i * 4 + 3,none⟩ = some (.slice wa ss[i].wher.length wc)):=Lib.hid fun W hW=>(hcs W hW).2.2.2
    have HRL:Hid (∀ W,Below w.heap.size w W → Calls Tryz.prog 75 #[.slice wa ss[i].wher.length wc,.int .i64 m] W fun e w'=>e = .returned (.int .i64 (woN f m ss[i].wher)) ∧ Below W.heap.size W w'):=Lib.hid fun W hW=>HLL.out wa wc ss[i].wher m W (XsAt.below hx hW) h8
    have HNX:Hid ((if 16777216 < IntKind.i64.wrap (1 + woN f m ss[i].wher) then IntKind.i64.wrap (1 + woN f m ss[i].wher) else wkL (woN f) m (IntKind.i64.wrap (r + IntKind.i64.wrap (m * IntKind.i64.wrap (1 + woN f m ss[i].wher)))) (ss.drop (i + 1))) = R):=Lib.hid (by
     have:=HB.out.1
     rw [List.drop_eq_getElem_cons hil,wkL_cons hr] at this
     exact this)
    clear hcs hx h4 h5 h6 h7 h8 hb
    obtain ⟨z,hz⟩:∃ z,woN f m ss[i].wher = z:=⟨_,rfl⟩
    rw [hz] at HRL HNX
    clear hz
    generalize ss[i].wher.length = wn at *
    have c3:=HCS.out _ HB.out.2
    obtain ⟨k,hk⟩:∃ k,IntKind.i64.wrap (1 + z) = k:=⟨_,rfl⟩
    rw [hk] at HNX
    go_wp2_with fail
    (with_reducible refine (HRL.out _ HB.out.2).mono ?_)
    rintro e w2 ⟨rfl,hb2⟩
    have HB2:=Lib.hid (HB.out.2.trans (hb2.mono HB.out.2.size))
    clear hb2
    by_cases hkk:16777216 < k
    ·rw [if_pos hkk] at HNX
     go_wp2_with fail
     go_ret
     exact ⟨ret_int HNX.out,HB2.out⟩
    ·rw [if_neg hkk] at HNX
     have hk2:k ≤ 16777216:=by omega
     clear hkk
     go_wp2_with fail
     go_roundw
     case rel=>exact ⟨i + 1,_,by go_num,rfl,by omega,Lib.hid ⟨(by simp only [w64_eq];exact HNX.out),HB2.out⟩⟩
     case measure=>simp [intOf];omega
   ·have hr':16777216 < r:=by omega
    have HE:Hid (r = R):=Lib.hid (by rw [← HB.out.1,wkL_stop hr'])
    go_wp2_with fail
    go_ret
    exact ⟨ret_int HE.out,HB.out.2⟩
  ·have i4:(n:Int) ≤ (i:Int):=by omega
   have HE:Hid (r = R):=Lib.hid (by rw [← HB.out.1,List.drop_of_length_le (by rw [HM.out];omega)];rfl)
   go_wp2_with fail
   go_ret
   exact ⟨ret_int HE.out,HB.out.2⟩
set_option maxRecDepth 100000 in
set_option maxHeartbeats 4000000 in
theorem works_of {f:Nat} (HL:WoX f) (HW:WkX f):WoX (f + 1):=fun a c l m w hs hn=>by
 have HS:=Lib.hid hs
 have HLL:=Lib.hid HL
 have HWW:=Lib.hid HW
 obtain ⟨R,hR⟩:∃ R,woN (f + 1) m l = R:=⟨_,rfl⟩
 rw [hR]
 have hR':capL 16777216 (woS (woN f) m) 0 l = R:=hR
 have HR:=Lib.hid hR'
 clear hs HL HW hR hR'
 obtain ⟨n,hm⟩:∃ n,l.length = n:=⟨_,rfl⟩
 rw [hm] at hn ⊢
 have HM:=Lib.hid hm
 clear hm
 go_enter Tryz.func75,Tryz.ntmps75
 go_wp2_with fail
 go_loopw [5,6] (fun kv iv wr=>∃ (i:Nat) (r:Int),iv = .int .i64 i ∧ kv = .int .i64 r ∧ i ≤ n ∧ Hid (capL 16777216 (woS (woN f) m) r (l.drop i) = R ∧ Below w.heap.size w wr)) (fun _ iv _=>n - (intOf iv).toNat)
 case atStart=>exact ⟨0,0,rfl,rfl,Nat.zero_le _,Lib.hid ⟨by rw [List.drop_zero];exact HR.out,Below.refl _ _⟩⟩
 case round =>
  obtain ⟨i,r,rfl,rfl,hin,HB⟩:=hrel
  by_cases hi:i < n
  ·have i1:(0:Int) ≤ (i:Int):=by omega
   have i2:(i:Int) < (n:Int):=by omega
   have ewi:IntKind.i64.wrap ((i:Int) + 1) = (i:Int) + 1:=IntWalk.i64_in _ (by omega)
   by_cases hr:r ≤ 16777216
   ·have hil:i < l.length:=by rw [HM.out];exact hi
    obtain ⟨b,o,xa,xc,xp,xd,rfl,hb,hxa,hxp,h4,h5,h6,h7,h8,h9,h10,h11,h12,hcs⟩:=HS.out.get i hil
    have HCS:Hid (∀ W,Below w.heap.size w W → W.cell? ⟨b,o + i * 7 + 1,none⟩ = some (.slice xa l[i].args.length xc) ∧ W.cell? ⟨b,o + i * 7 + 2,none⟩ = some (.slice xp l[i].path.length xd) ∧ Below w.heap.size w W):=Lib.hid fun W hW=>⟨(hcs W hW).2.1,(hcs W hW).2.2.1,hW⟩
    have HRL2:Hid (∀ W,Below w.heap.size w W → Calls Tryz.prog 75 #[.slice xa l[i].args.length xc,.int .i64 m] W fun e w'=>e = .returned (.int .i64 (woN f m l[i].args)) ∧ Below w.heap.size w w'):=Lib.hid fun W hW=>(HLL.out xa xc l[i].args m W (XsAt.below hxa hW) h11).mono fun e w' ⟨h1,h2⟩=>⟨h1,hW.trans (h2.mono hW.size)⟩
    have HRX2:Hid (∀ W,Below w.heap.size w W → Calls Tryz.prog 41 #[.slice xp l[i].path.length xd,.int .i64 m] W fun e w'=>e = .returned (.int .i64 (wkL (woN f) m 0 l[i].path)) ∧ Below w.heap.size w w'):=Lib.hid fun W hW=>(HWW.out xp xd l[i].path m W (SsAt.below hxp hW) h12).mono fun e w' ⟨h1,h2⟩=>⟨h1,hW.trans (h2.mono hW.size)⟩
    have HNX:Hid (capL 16777216 (woS (woN f) m) (IntKind.i64.wrap (r + IntKind.i64.wrap (IntKind.i64.wrap (1 + woN f m l[i].args) + wkL (woN f) m 0 l[i].path))) (l.drop (i + 1)) = R):=Lib.hid (by
     have:=HB.out.1
     rw [List.drop_eq_getElem_cons hil,capL_cons hr] at this
     exact this)
    clear hcs hxa hxp h4 h5 h6 h7 h8 h9 h10 h11 h12 hb
    generalize woN f m l[i].args = z1 at *
    generalize wkL (woN f) m 0 l[i].path = z2 at *
    generalize l[i].args.length = xl at *
    generalize l[i].path.length = pl at *
    have HBD:=Lib.hid (HB.out.2.drew)
    have hbd:=HBD.out
    obtain ⟨c1,c2,_⟩:=HCS.out _ hbd
    go_wp2_with fail
    go_region_held3 (fun w'=>w'.cell? ⟨b,o + i * 7 + 1,none⟩ = some (.slice xa xl xc) ∧ w'.cell? ⟨b,o + i * 7 + 2,none⟩ = some (.slice xp pl xd) ∧ Below w.heap.size w w') (first | exact HCS.out _ hbd | exact HCS.out _ ‹_›) (first | (go_at_call 75;(with_reducible refine (HRL2.out _ ‹_›).mono ?_);rintro e w5 ⟨rfl,hb5⟩) | (go_at_call 41;(with_reducible refine (HRX2.out _ ‹_›).mono ?_);rintro e w7 ⟨rfl,hb7⟩))
    have HB8:=Lib.hid hb7
    clear hb5 hb7
    go_wp2_with fail
    go_roundw
    case rel=>exact ⟨i + 1,_,by go_num,rfl,by omega,Lib.hid ⟨HNX.out,HB8.out⟩⟩
    case measure=>simp [intOf];omega
   ·have hr':16777216 < r:=by omega
    have HE:Hid (r = R):=Lib.hid (by rw [← HB.out.1,capL_stop hr'])
    go_wp2_with fail
    go_ret
    exact ⟨ret_int HE.out,HB.out.2⟩
  ·have i4:(n:Int) ≤ (i:Int):=by omega
   have HE:Hid (r = R):=Lib.hid (by rw [← HB.out.1,List.drop_of_length_le (by rw [HM.out];omega)];rfl)
   go_wp2_with fail
   go_ret
   exact ⟨ret_int HE.out,HB.out.2⟩
set_option maxRecDepth 100000 in
set_option maxHeartbeats 4000000 in
theorem works_zero:WoX 0:=fun a c l m w hs hn=>by
 obtain rfl:l = []:=XsAt.zero hs
 rw [show ([]:List PX).length = 0 from rfl,show woN 0 m [] = 0 from rfl]
 clear hs hn
 go_enter Tryz.func75,Tryz.ntmps75
 go_wp2_with fail
 go_loopw [5,6] (fun kv iv wr=>iv = .int .i64 0 ∧ kv = .int .i64 0 ∧ Hid (Below w.heap.size w wr)) (fun _ _ _=>0)
 case atStart=>exact ⟨rfl,rfl,Lib.hid (Below.refl _ _)⟩
 case round =>
  obtain ⟨rfl,rfl,HB⟩:=hrel
  go_wp2_with fail
  go_ret
  exact ⟨rfl,HB.out⟩
theorem works_all:∀ f,WoX f
 | 0=>works_zero
 | f + 1=>works_of (works_all f) (work_of (works_all f))
theorem work_all (f:Nat):WkX f:=work_of (works_all f)
set_option maxRecDepth 100000 in
set_option maxHeartbeats 4000000 in
theorem heavy_any {f:Nat} (a:Option Addr) (c:Nat) (ss:List PS) (w:World) (hs:SsAt f w a ss) (hn:ss.length ≤ 1048576) :
  Calls Tryz.prog 22 #[.agg #[.slice a ss.length c],.int .i64 120] w fun e w'=>SomeB e ∧ Below w.heap.size w w':=by
 have hb0:Below w.heap.size w (w.alloc (.cells #[.slice a ss.length c] 25)):=(Below.refl _ _).alloc (Nat.le_refl _) _
 have HB0:=Lib.hid hb0
 have HR:=Lib.hid (work_all f a c ss 121 _ (SsAt.below hs hb0) hn)
 clear hs hb0
 generalize ss.length = n at *
 generalize wkL (woN f) 121 0 ss = z at *
 go_enter Tryz.func22,Tryz.ntmps22
 go_wp2_with fail
 (with_reducible refine HR.out.mono ?_)
 rintro e w2 ⟨rfl,hb2⟩
 have HB2:=Lib.hid (HB0.out.trans (hb2.mono HB0.out.size))
 clear hb2
 go_wp2_with fail
 go_ret
 exact ⟨⟨_,rfl⟩,HB2.out⟩
set_option maxRecDepth 100000 in
set_option maxHeartbeats 4000000 in
theorem light_any {f:Nat} (a:Option Addr) (c:Nat) (ss:List PS) (w:World) (hs:SsAt f w a ss) (hn:ss.length ≤ 1048576) :
  Calls Tryz.prog 9 #[.agg #[.slice a ss.length c]] w fun e w'=>SomeB e ∧ Below w.heap.size w w':=by
 obtain ⟨W0,hW0⟩:∃ W0,W0 = w.alloc (.cells #[.slice a ss.length c] 25):=⟨_,rfl⟩
 have hb0:Below w.heap.size w W0:=by rw [hW0];exact (Below.refl _ _).alloc (Nat.le_refl _) _
 have hk5:W0.heap[w.heap.size]? = some (.cells #[.slice a ss.length c] 25 (0,0)):=by rw [hW0];exact heap_alloc_new w _
 have hsz0:W0.heap.size = w.heap.size + 1:=by rw [hW0];simp
 have HKS:Hid (∀ W,Below W0.heap.size W0 W → W.cell? ⟨w.heap.size,0,none⟩ = some (.slice a ss.length c)):=Lib.hid fun W hW=>by
  rw [cell_heap ((hW.block w.heap.size (by omega)).trans hk5)];rfl
 have HB0:=Lib.hid hb0
 have HR:=Lib.hid (weight_all f a c ss 0 _ (SsAt.below hs hb0) hn)
 have HV:Hid (∀ W,Below W0.heap.size W0 W → Calls Tryz.prog 22 #[.agg #[.slice a ss.length c],.int .i64 120] W fun e w'=>SomeB e ∧ Below W.heap.size W w'):=Lib.hid fun W hW=>heavy_any a c ss W (SsAt.below hs (hb0.trans (hW.mono hb0.size))) hn
 have HW0E:=Lib.hid hW0
 clear hs hb0 hW0 hk5 hsz0
 generalize ss.length = n at *
 generalize wtN (exN f) 0 ss = z at *
 go_enter Tryz.func9,Tryz.ntmps9
 go_wp2_with fail
 rw [← HW0E.out]
 have c0:=HKS.out W0 (Below.refl _ _)
 by_cases hz:z ≤ 60
 ·go_wp2_with fail
  (with_reducible refine HR.out.mono ?_)
  rintro e w2 ⟨rfl,hb2⟩
  have c1:=HKS.out w2 hb2
  have HHV:=Lib.hid (HV.out w2 hb2)
  have HB2:=Lib.hid (HB0.out.trans (hb2.mono HB0.out.size))
  clear hb2
  go_wp2_with fail
  (with_reducible refine HHV.out.mono ?_)
  rintro e w3 ⟨⟨b,rfl⟩,hb3⟩
  have HB3:=Lib.hid (HB2.out.trans (hb3.mono HB2.out.size))
  clear hb3
  go_wp2_with fail
  go_ret
  exact ⟨⟨_,rfl⟩,HB3.out⟩
 ·have hz':60 < z:=by omega
  go_wp2_with fail
  (with_reducible refine HR.out.mono ?_)
  rintro e w2 ⟨rfl,hb2⟩
  have HB2:=Lib.hid (HB0.out.trans (hb2.mono HB0.out.size))
  clear hb2
  go_wp2_with fail
  go_ret
  exact ⟨⟨_,rfl⟩,HB2.out⟩
end Go.Proofs.YtgjokdngbocehaaGreatDoor
namespace Go.Proofs.YtgjokdngbocehaaGreatDoor
open Go.RowKit
theorem begR_whole (evs:List Ev):(wholeB evs = true → begR evs = (true,0,true)) ∧ (wholeB evs = false → (begR evs).1 = false ∨ (begR evs).2.2 = false):=by
 constructor
 ·intro h
  obtain ⟨t,ht,hne,hop⟩:=wholeB_some h
  rw [begR_all ht,hop]
  simp [hne]
 ·intro h
  unfold wholeB at h
  unfold begR
  cases hs:begAll beg0 evs with
  | none=>exact .inl rfl
  | some s=>rw [hs] at h;exact .inr h
end Go.Proofs.YtgjokdngbocehaaGreatDoor
namespace Go.Proofs.YtgjokdngbocehaaGreatDoor
open Go.RowKit
set_option maxRecDepth 100000 in
set_option maxHeartbeats 4000000 in
theorem whole15_any {f:Nat} (hf:f ≤ 1048576) (a:Option Addr) (n c:Nat) (evs:List Ev) (pa:Option Addr) (pc:Nat) (ss:List PS) (w:World) (hE:BegQ w a n evs) (hp:SsAt f w pa ss) (hpl:ss.length ≤ 1048576) :
  Calls Tryz.prog 21 #[.slice a n c,.agg #[.slice pa ss.length pc]] w fun e w'=>∃ b,e = .returned (.bool b) ∧ (b = true → wholeB evs = true ∧ n ≤ 120 ∧ checkN f ss = 0) ∧ Below w.heap.size w w':=by
 obtain ⟨W0,hW0⟩:∃ W0,W0 = w.alloc (.cells #[.slice pa ss.length pc] 25):=⟨_,rfl⟩
 have hb0:Below w.heap.size w W0:=by rw [hW0];exact (Below.refl w.heap.size w).alloc (Nat.le_refl _) _
 have hsz0:W0.heap.size = w.heap.size + 1:=by rw [hW0];simp
 have hk4:W0.heap[w.heap.size]? = some (.cells #[.slice pa ss.length pc] 25 (0,0)):=by rw [hW0];exact heap_alloc_new w _
 have HKS:Hid (∀ W,Below W0.heap.size W0 W → W.cell? ⟨w.heap.size,0,none⟩ = some (.slice pa ss.length pc)):=Lib.hid fun W hW=>by rw [cell_heap ((hW.block w.heap.size (by omega)).trans hk4)];rfl
 have FIN:Hid (∀ W,Below W0.heap.size W0 W → Below w.heap.size w W):=Lib.hid fun W hW=>hb0.trans (hW.mono hb0.size)
 have HBG:Hid (Calls Tryz.prog 30 #[.slice a n c] W0 fun e w'=>e = retB (begR evs) ∧ Below W0.heap.size W0 w'):=Lib.hid (begin_any a n c evs W0 (hE.at'.below hb0) hE.le hE.sm)
 have HLT:Hid (∀ W,Below W0.heap.size W0 W → Calls Tryz.prog 9 #[.agg #[.slice pa ss.length pc]] W fun e w'=>SomeB e ∧ Below W.heap.size W w'):=Lib.hid fun W hW=>light_any pa pc ss W (SsAt.below hp (FIN.out W hW)) hpl
 have HCK:Hid (∀ W,Below W0.heap.size W0 W → Calls Tryz.prog 12 #[.agg #[.slice pa ss.length pc]] W fun e w'=>e = .returned (.int .i64 (checkN f ss)) ∧ Below W.heap.size W w'):=Lib.hid fun W hW=>check_any hf pa pc ss W (hE.below (FIN.out W hW)).env (SsAt.below hp (FIN.out W hW)) hpl
 have HWH:Hid ((begR evs).1 = true → (begR evs).2.2 = true → wholeB evs = true):=Lib.hid fun h1 h2=>by
  cases h:wholeB evs with
  | true=>rfl
  | false=>rcases (begR_whole evs).2 h with h3 | h3 <;> simp_all
 have HW0E:=Lib.hid hW0
 have hn:n ≤ 1048576:=hE.le
 generalize ss.length = m at *
 obtain ⟨cv,hcv⟩:∃ cv,checkN f ss = cv:=⟨_,rfl⟩
 rw [hcv] at HCK
 rw [hcv]
 obtain ⟨wb,hwb⟩:∃ wb,wholeB evs = wb:=⟨_,rfl⟩
 rw [hwb] at HWH
 rw [hwb]
 generalize begR evs = r at *
 obtain ⟨r1,r2,r3⟩:=r
 simp only at HWH
 unfold retB at HBG
 simp only at HBG
 clear hW0 hb0 hsz0 hk4 hE hp hpl hcv hwb
 go_enter Tryz.func21,Tryz.ntmps21
 go_wp2_with fail
 rw [← HW0E.out]
 (with_reducible refine HBG.out.mono ?_)
 rintro e w2 ⟨rfl,hb2⟩
 have HB2:=Lib.hid hb2
 clear hb2
 cases r1 with
 | false =>
  go_wp2_with fail
  go_ret
  exact ⟨false,rfl,fun h=>(by cases h),FIN.out _ HB2.out⟩
 | true =>
 cases r3 with
 | false =>
  go_wp2_with fail
  go_ret
  exact ⟨false,rfl,fun h=>(by cases h),FIN.out _ HB2.out⟩
 | true =>
 have p0:=HKS.out w2 HB2.out
 by_cases hn120:(n:Int) ≤ 120
 rotate_left
 ·have hn':(120:Int) < (n:Int):=by omega
  have hn'':((n:Int) ≤ 120) = False:=by simp;omega
  clear hn120
  go_wp2_with fail
  go_ret
  exact ⟨false,rfl,fun h=>(by cases h),FIN.out _ HB2.out⟩
 have HL2:=Lib.hid (HLT.out w2 HB2.out)
 go_wp2_with fail
 (with_reducible refine HL2.out.mono ?_)
 rintro e w3 ⟨⟨b,rfl⟩,hb⟩
 have HB3:=Lib.hid (HB2.out.trans (hb.mono HB2.out.size))
 clear hb p0
 have p0:=HKS.out w3 HB3.out
 cases b with
 | false =>
  go_wp2_with fail
  go_ret
  exact ⟨false,rfl,fun h=>(by cases h),FIN.out _ HB3.out⟩
 | true =>
 have HC3:=Lib.hid (HCK.out w3 HB3.out)
 go_wp2_with fail
 (with_reducible refine HC3.out.mono ?_)
 rintro e w4 ⟨rfl,hb⟩
 have HB4:=Lib.hid (HB3.out.trans (hb.mono HB3.out.size))
 clear hb
 go_wp2_with fail
 go_ret
 exact ⟨_,rfl,fun h=>⟨HWH.out (by simp) (by simp),by omega,by simpa using h⟩,FIN.out _ HB4.out⟩
end Go.Proofs.YtgjokdngbocehaaGreatDoor
namespace Go.Proofs.YtgjokdngbocehaaGreatDoor
open Go.RowKit
def RestX (f:Nat):Prop:=∀ (a:Option Addr) (c:Nat) (ss:List PS) (k:Int) (W:World),SsAt f W a ss → ss.length ≤ 1048576 → -3000000 ≤ k → k ≤ 262144 →
 Calls Tryz.prog 40 #[.slice a ss.length c,.int .i64 k] W fun e w'=>∃ r,e = .returned (.int .i64 r) ∧ -3000000 ≤ r ∧ r ≤ k ∧ Below W.heap.size W w'
def RestL (f:Nat):Prop:=∀ (a:Option Addr) (c:Nat) (l:List PX) (k:Int) (W:World),XsAt f W a l → l.length ≤ 1048576 → -3000000 ≤ k → k ≤ 262144 →
 Calls Tryz.prog 74 #[.slice a l.length c,.int .i64 k] W fun e w'=>∃ r,e = .returned (.int .i64 r) ∧ -3000000 ≤ r ∧ r ≤ k ∧ Below W.heap.size W w'
set_option maxRecDepth 100000 in
set_option maxHeartbeats 4000000 in
theorem rest_of {f:Nat} (HL:RestL f):RestX f:=fun a c ss k w hs hn hk1 hk2=>by
 have HS:=Lib.hid hs
 have HLL:=Lib.hid HL
 clear hs HL
 obtain ⟨n,hm⟩:∃ n,ss.length = n:=⟨_,rfl⟩
 rw [hm] at hn ⊢
 have HM:=Lib.hid hm
 clear hm
 go_enter Tryz.func40,Tryz.ntmps40
 go_wp2_with fail
 go_loopw [1,5] (fun kv iv wr=>∃ (i:Nat) (r:Int),iv = .int .i64 i ∧ kv = .int .i64 r ∧ i ≤ n ∧ -3000000 ≤ r ∧ r ≤ k ∧ Hid (Below w.heap.size w wr)) (fun _ iv _=>n - (intOf iv).toNat)
 case atStart=>exact ⟨0,k,rfl,rfl,Nat.zero_le _,hk1,Int.le_refl _,Lib.hid (Below.refl _ _)⟩
 case round =>
  obtain ⟨i,r,rfl,rfl,hin,hr1,hr2,HB⟩:=hrel
  by_cases hi:i < n
  ·have i1:(0:Int) ≤ (i:Int):=by omega
   have i2:(i:Int) < (n:Int):=by omega
   have ewi:IntKind.i64.wrap ((i:Int) + 1) = (i:Int) + 1:=IntWalk.i64_in _ (by omega)
   by_cases hr:0 ≤ r
   ·have hil:i < ss.length:=by rw [HM.out];exact hi
    obtain ⟨b,o,wa,wc,rfl,hb,hx,h4,h5,h6,h7,h8,hcs⟩:=HS.out.get i hil
    have HCS:Hid (∀ W,Below w.heap.size w W → W.cell? ⟨b,o + i * 4 + 2,none⟩ = some (.string (strL ss[i].name)) ∧ W.cell? ⟨b,o + i * 4 + 3,none⟩ = some (.slice wa ss[i].wher.length wc)):=Lib.hid fun W hW=>⟨(hcs W hW).2.2.1,(hcs W hW).2.2.2⟩
    have HRL:Hid (∀ W q,Below w.heap.size w W → -3000000 ≤ q → q ≤ 262144 → Calls Tryz.prog 74 #[.slice wa ss[i].wher.length wc,.int .i64 q] W fun e w'=>∃ r,e = .returned (.int .i64 r) ∧ -3000000 ≤ r ∧ r ≤ q ∧ Below W.heap.size W w'):=Lib.hid fun W q hW h1 h2=>HLL.out wa wc ss[i].wher q W (XsAt.below hx hW) h8 h1 h2
    have hnm:(strL ss[i].name).size ≤ 1048576:=by rw [strL_size];exact h7
    clear hcs hx h4 h5 h6 h7 h8 hb
    generalize strL ss[i].name = nm at *
    generalize ss[i].wher.length = wl at *
    have ew1:IntKind.i64.wrap (r - 1) = r - 1:=IntWalk.i64_in _ (by omega)
    have ew2:IntKind.i64.wrap (r - 1 - (nm.size:Int)) = r - 1 - (nm.size:Int):=IntWalk.i64_in _ (by omega)
    obtain ⟨q,hq⟩:∃ q,r - 1 - (nm.size:Int) = q:=⟨_,rfl⟩
    have hq1:-3000000 ≤ q:=by omega
    have hq2:q ≤ r - 1:=by omega
    have hq3:q ≤ 262144:=by omega
    have HQ:=Lib.hid (And.intro hq1 hq3)
    rw [hq] at ew2
    have HBD:=Lib.hid (HB.out.drew)
    obtain ⟨c2,c3⟩:=HCS.out _ HBD.out
    go_wp2_with fail
    go_region_held3 (fun w'=>w'.cell? ⟨b,o + i * 4 + 2,none⟩ = some (.string nm) ∧ w'.cell? ⟨b,o + i * 4 + 3,none⟩ = some (.slice wa wl wc)) (first | exact HCS.out _ HBD.out | exact HCS.out _ ‹_›) (first | (go_at_call 74;(with_reducible refine (HRL.out _ q HBD.out HQ.out.1 HQ.out.2).mono ?_);rintro e w5 ⟨r5,rfl,p1,p2,hb5⟩;have hb6:=HBD.out.trans (hb5.mono HBD.out.size)))
    have HB6:=Lib.hid hb6
    clear hb5 hb6
    go_wp2_with fail
    go_roundw
    case rel=>exact ⟨i + 1,r5,by go_num,rfl,by omega,p1,by omega,HB6⟩
    case measure=>simp [intOf];omega
   ·have hr':r < 0:=by omega
    go_wp2_with fail
    go_ret
    exact ⟨r,rfl,hr1,hr2,HB.out⟩
  ·have i4:(n:Int) ≤ (i:Int):=by omega
   go_wp2_with fail
   go_ret
   exact ⟨r,rfl,hr1,hr2,HB.out⟩
set_option maxRecDepth 100000 in
set_option maxHeartbeats 4000000 in
theorem restL_of {f:Nat} (HL:RestL f) (HR:RestX f):RestL (f + 1):=fun a c l k w hs hn hk1 hk2=>by
 have HS:Hid (XsAt (f + 1) w a l):=Lib.hid hs
 have HLL:=Lib.hid HL
 have HRR:=Lib.hid HR
 clear hs HL HR
 obtain ⟨n,hm⟩:∃ n,l.length = n:=⟨_,rfl⟩
 rw [hm] at hn ⊢
 have HM:=Lib.hid hm
 clear hm
 go_enter Tryz.func74,Tryz.ntmps74
 go_wp2_with fail
 go_loopw [1,5] (fun kv iv wr=>∃ (i:Nat) (r:Int),iv = .int .i64 i ∧ kv = .int .i64 r ∧ i ≤ n ∧ -3000000 ≤ r ∧ r ≤ k ∧ Hid (Below w.heap.size w wr)) (fun _ iv _=>n - (intOf iv).toNat)
 case atStart=>exact ⟨0,k,rfl,rfl,Nat.zero_le _,hk1,Int.le_refl _,Lib.hid (Below.refl _ _)⟩
 case round =>
  obtain ⟨i,r,rfl,rfl,hin,hr1,hr2,HB⟩:=hrel
  by_cases hi:i < n
  ·have i1:(0:Int) ≤ (i:Int):=by omega
   have i2:(i:Int) < (n:Int):=by omega
   have ewi:IntKind.i64.wrap ((i:Int) + 1) = (i:Int) + 1:=IntWalk.i64_in _ (by omega)
   by_cases hr:0 ≤ r
   ·have hil:i < l.length:=by rw [HM.out];exact hi
    obtain ⟨b,o,xa,xc,xp,xd,rfl,hb,hxa,hxp,h4,h5,h6,h7,h8,h9,h10,h11,h12,hcs⟩:=HS.out.get i hil
    have HCS:Hid (∀ W,Below w.heap.size w W → W.cell? ⟨b,o + i * 7 + 1,none⟩ = some (.slice xa l[i].args.length xc) ∧ W.cell? ⟨b,o + i * 7 + 2,none⟩ = some (.slice xp l[i].path.length xd) ∧ W.cell? ⟨b,o + i * 7 + 3,none⟩ = some (.string (strL l[i].attr)) ∧ W.cell? ⟨b,o + i * 7 + 5,none⟩ = some (.string (strL l[i].text))):=Lib.hid fun W hW=>⟨(hcs W hW).2.1,(hcs W hW).2.2.1,(hcs W hW).2.2.2.1,(hcs W hW).2.2.2.2.2.1⟩
    have HRL:Hid (∀ W q,Below w.heap.size w W → -3000000 ≤ q → q ≤ 262144 → Calls Tryz.prog 74 #[.slice xa l[i].args.length xc,.int .i64 q] W fun e w'=>∃ r,e = .returned (.int .i64 r) ∧ -3000000 ≤ r ∧ r ≤ q ∧ Below W.heap.size W w'):=Lib.hid fun W q hW h1 h2=>HLL.out xa xc l[i].args q W (XsAt.below hxa hW) h11 h1 h2
    have HRX:Hid (∀ W q,Below w.heap.size w W → -3000000 ≤ q → q ≤ 262144 → Calls Tryz.prog 40 #[.slice xp l[i].path.length xd,.int .i64 q] W fun e w'=>∃ r,e = .returned (.int .i64 r) ∧ -3000000 ≤ r ∧ r ≤ q ∧ Below W.heap.size W w'):=Lib.hid fun W q hW h1 h2=>HRR.out xp xd l[i].path q W (SsAt.below hxp hW) h12 h1 h2
    have hnm:(strL l[i].attr).size ≤ 1048576:=by rw [strL_size];exact h9
    have htx:(strL l[i].text).size ≤ 1048576:=by rw [strL_size];exact h10
    clear hcs hxa hxp h4 h5 h6 h7 h8 h9 h10 h11 h12 hb
    generalize strL l[i].attr = nm at *
    generalize strL l[i].text = tx at *
    generalize l[i].args.length = xl at *
    generalize l[i].path.length = pl at *
    have ew1:IntKind.i64.wrap (r - 1) = r - 1:=IntWalk.i64_in _ (by omega)
    have ew2:IntKind.i64.wrap (r - 1 - (nm.size:Int)) = r - 1 - (nm.size:Int):=IntWalk.i64_in _ (by omega)
    have ew3:IntKind.i64.wrap (r - 1 - (nm.size:Int) - (tx.size:Int)) = r - 1 - (nm.size:Int) - (tx.size:Int):=IntWalk.i64_in _ (by omega)
    obtain ⟨q,hq⟩:∃ q,r - 1 - (nm.size:Int) - (tx.size:Int) = q:=⟨_,rfl⟩
    have hq1:-3000000 ≤ q:=by omega
    have hq2:q ≤ r - 1:=by omega
    have hq3:q ≤ 262144:=by omega
    have HQ:=Lib.hid (And.intro hq1 hq3)
    rw [hq] at ew3
    have HBD:=Lib.hid (HB.out.drew)
    obtain ⟨c1,c2,c3,c5⟩:=HCS.out _ HBD.out
    go_wp2_with fail
    go_region_held3 (fun w'=>w'.cell? ⟨b,o + i * 7 + 1,none⟩ = some (.slice xa xl xc) ∧ w'.cell? ⟨b,o + i * 7 + 2,none⟩ = some (.slice xp pl xd) ∧ w'.cell? ⟨b,o + i * 7 + 3,none⟩ = some (.string nm) ∧ w'.cell? ⟨b,o + i * 7 + 5,none⟩ = some (.string tx)) (first | exact HCS.out _ HBD.out | exact HCS.out _ ‹_›) (first | (go_at_call 74;(with_reducible refine (HRL.out _ q HBD.out HQ.out.1 HQ.out.2).mono ?_);rintro e w5 ⟨r5,rfl,p1,p2,hb5⟩;have hb6:=HBD.out.trans (hb5.mono HBD.out.size)) | (go_at_call 40;(with_reducible refine (HRX.out _ r5 hb6 p1 (Int.le_trans p2 HQ.out.2)).mono ?_);rintro e w7 ⟨r7,rfl,p3,p4,hb7⟩;have hb8:=hb6.trans (hb7.mono hb6.size)))
    have HB8:=Lib.hid hb8
    clear hb5 hb6 hb7 hb8
    go_wp2_with fail
    go_roundw
    case rel=>exact ⟨i + 1,r7,by go_num,rfl,by omega,p3,by omega,HB8⟩
    case measure=>simp [intOf];omega
   ·have hr':r < 0:=by omega
    go_wp2_with fail
    go_ret
    exact ⟨r,rfl,hr1,hr2,HB.out⟩
  ·have i4:(n:Int) ≤ (i:Int):=by omega
   go_wp2_with fail
   go_ret
   exact ⟨r,rfl,hr1,hr2,HB.out⟩
set_option maxRecDepth 100000 in
set_option maxHeartbeats 4000000 in
theorem restL_zero:RestL 0:=fun a c l k w hs hn hk1 hk2=>by
 obtain rfl:l = []:=XsAt.zero hs
 rw [show ([]:List PX).length = 0 from rfl]
 clear hs hn
 go_enter Tryz.func74,Tryz.ntmps74
 go_wp2_with fail
 go_loopw [1,5] (fun kv iv wr=>iv = .int .i64 0 ∧ kv = .int .i64 k ∧ Hid (Below w.heap.size w wr)) (fun _ _ _=>0)
 case atStart=>exact ⟨rfl,rfl,Lib.hid (Below.refl _ _)⟩
 case round =>
  obtain ⟨rfl,rfl,HB⟩:=hrel
  go_wp2_with fail
  go_ret
  exact ⟨k,rfl,hk1,Int.le_refl _,HB.out⟩
theorem restL_all:∀ f,RestL f
 | 0=>restL_zero
 | f + 1=>restL_of (restL_all f) (rest_of (restL_all f))
theorem rest_all (f:Nat):RestX f:=rest_of (restL_all f)
set_option maxRecDepth 100000 in
set_option maxHeartbeats 4000000 in
theorem great_any {f:Nat} (a:Option Addr) (c:Nat) (ss:List PS) (w:World) (hs:SsAt f w a ss) (hn:ss.length ≤ 1048576) :
  Calls Tryz.prog 20 #[.agg #[.slice a ss.length c]] w fun e w'=>∃ g,e = .returned (.bool g) ∧ Below w.heap.size w w':=by
 have hb0:Below w.heap.size w (w.alloc (.cells #[.slice a ss.length c] 25)):=(Below.refl _ _).alloc (Nat.le_refl _) _
 have HB0:=Lib.hid hb0
 have HR:=Lib.hid (rest_all f a c ss 262144 _ (SsAt.below hs hb0) hn (by decide) (by decide))
 clear hs hb0
 generalize ss.length = n at *
 go_enter Tryz.func20,Tryz.ntmps20
 go_wp2_with fail
 (with_reducible refine HR.out.mono ?_)
 rintro e w2 ⟨r,rfl,_,_,hb2⟩
 have HB2:=Lib.hid (HB0.out.trans (hb2.mono HB0.out.size))
 clear hb2
 go_wp2_with fail
 go_ret
 exact ⟨_,rfl,HB2.out⟩
end Go.Proofs.YtgjokdngbocehaaGreatDoor
namespace Go.Proofs.YtgjokdngbocehaaGreatDoor
open Go.RowKit
def ahE2:List Ev:=[⟨0,0,1,[97],[],[],0,0⟩,⟨0,1,2,[98],[],[],0,0⟩]
def ahE1:List Ev:=[⟨0,0,1,[97],[],[],0,0⟩]
def ahX:PX:=.mk 3 [] [.mk 0 0 [98] []] [] 0 [] 0
def ahP:List PS:=[.mk 0 0 [97] [ahX]]
theorem ah_v1:verdN 1 ahE1 ahP = ([(0,1)],0):=by kernel_rfl
theorem ah_v2:verdN 1 ahE2 ahP = ([(0,2)],0):=by kernel_rfl
theorem ah_sm2:∀ e ∈ ahE2,EvSm e:=fun e he=>by
 simp only [ahE2,List.mem_cons,List.not_mem_nil,or_false] at he
 rcases he with rfl | rfl <;> exact ⟨by decide,by decide,by decide,fun p hp=>by cases hp⟩
theorem ah_sm1:∀ e ∈ ahE1,EvSm e:=fun e he=>by
 simp only [ahE1,List.mem_cons,List.not_mem_nil,or_false] at he
 subst he;exact ⟨by decide,by decide,by decide,fun p hp=>by cases hp⟩
theorem ah_evs {w:World} {G:Nat} (h:w.heap[G]? = some (.cells (ahE2.flatMap fun e=>evL e none 0 0).toArray 47 (0,0))):EvsAt w (some ⟨G,0,none⟩) 2 ahE2 ∧ EvsAt w (some ⟨G,0,none⟩) 1 ahE1:=by
 have c:∀ j,w.cell? ⟨G,j,none⟩ = (ahE2.flatMap fun e=>evL e none 0 0).toArray[j]?:=fun j=>by rw [cell_heap h]
 refine ⟨⟨rfl,fun i hi=>?_⟩,⟨rfl,fun i hi=>?_⟩⟩
 ·have h3:i < 2:=hi
  have key:i = 0 ∨ i = 1:=by omega
  refine ⟨G,0,none,0,0,rfl,heap_lt h,Nat.le_refl _,⟨by rcases key with rfl | rfl <;> rfl,fun k hk=>by rcases key with rfl | rfl <;> simp [ahE2] at hk⟩,fun j hj=>?_⟩
  rw [c]
  rcases key with rfl | rfl
  ·match j,hj with
   | 0,_=>rfl
   | 1,_=>rfl
   | 2,_=>rfl
   | 3,_=>rfl
   | 4,_=>rfl
   | 5,_=>rfl
   | 6,_=>rfl
   | 7,_=>rfl
  ·match j,hj with
   | 0,_=>rfl
   | 1,_=>rfl
   | 2,_=>rfl
   | 3,_=>rfl
   | 4,_=>rfl
   | 5,_=>rfl
   | 6,_=>rfl
   | 7,_=>rfl
 ·have h3:i < 1:=hi
  have key:i = 0:=by omega
  subst key
  refine ⟨G,0,none,0,0,rfl,heap_lt h,Nat.le_refl _,⟨rfl,fun k hk=>by simp [ahE1] at hk⟩,fun j hj=>?_⟩
  rw [c]
  match j,hj with
  | 0,_=>rfl
  | 1,_=>rfl
  | 2,_=>rfl
  | 3,_=>rfl
  | 4,_=>rfl
  | 5,_=>rfl
  | 6,_=>rfl
  | 7,_=>rfl
def ahW (w:World):World :=
 (((((w.alloc (.cells #[.int .i64 0,.int .i64 0,.string ⟨#[98]⟩,.slice none 0 0] 76)).alloc (.cells #[.int .i64 3,.slice none 0 0,.slice (some ⟨w.heap.size,0,none⟩) 1 1,.string ⟨#[]⟩,.int .i64 0,.string ⟨#[]⟩,.int .i64 0] 42)).alloc
  (.cells #[.int .i64 3,.slice none 0 0,.slice (some ⟨w.heap.size,0,none⟩) 1 1,.string ⟨#[]⟩,.int .i64 0,.string ⟨#[]⟩,.int .i64 0] 42)).alloc (.cells #[.int .i64 0,.int .i64 0,.string ⟨#[97]⟩,.slice (some ⟨w.heap.size + 1 + 1,0,none⟩) 1 1] 76)).alloc
  (.cells #[.slice (some ⟨w.heap.size + 1 + 1 + 1,0,none⟩) 1 1] 25)).alloc (.cells #[.int .i64 0,.int .i64 0,.int .i64 1,.string ⟨#[97]⟩,.slice none 0 0,.string ⟨#[]⟩,.int .i64 0,.int .i64 0,.int .i64 0,.int .i64 1,.int .i64 2,.string ⟨#[98]⟩,.slice none 0 0,.string ⟨#[]⟩,.int .i64 0,.int .i64 0] 47)
theorem ahW_spec (w:World):Below w.heap.size w (ahW w) ∧ (ahW w).heap[w.heap.size + 1 + 1 + 1 + 1]? = some (.cells #[.slice (some ⟨w.heap.size + 1 + 1 + 1,0,none⟩) 1 1] 25 (0,0)) ∧ SsAt 1 (ahW w) (some ⟨w.heap.size + 1 + 1 + 1,0,none⟩) ahP ∧
  EvsAt (ahW w) (some ⟨w.heap.size + 1 + 1 + 1 + 1 + 1,0,none⟩) 2 ahE2 ∧ EvsAt (ahW w) (some ⟨w.heap.size + 1 + 1 + 1 + 1 + 1,0,none⟩) 1 ahE1:=by
 have hb:Below w.heap.size w (ahW w):=((((((Below.refl _ _).alloc (Nat.le_refl _) _).alloc (by simp) _).alloc (by simp only [World.size_alloc];omega) _).alloc (by simp only [World.size_alloc];omega) _).alloc (by simp only [World.size_alloc];omega) _).alloc (by simp only [World.size_alloc];omega) _
 have k0:(ahW w).heap[w.heap.size]? = some (.cells #[.int .i64 0,.int .i64 0,.string ⟨#[98]⟩,.slice none 0 0] 76 (0,0)):=by
  unfold ahW
  iterate 5 rw [Below.heap_alloc _ _ _ (by simp only [World.size_alloc];omega)]
  exact alloc_atH _ _ rfl
 have k2:(ahW w).heap[w.heap.size + 1 + 1]? = some (.cells #[.int .i64 3,.slice none 0 0,.slice (some ⟨w.heap.size,0,none⟩) 1 1,.string ⟨#[]⟩,.int .i64 0,.string ⟨#[]⟩,.int .i64 0] 42 (0,0)):=by
  unfold ahW
  iterate 3 rw [Below.heap_alloc _ _ _ (by simp only [World.size_alloc];omega)]
  exact alloc_atH _ _ (by simp only [World.size_alloc])
 have k3:(ahW w).heap[w.heap.size + 1 + 1 + 1]? = some (.cells #[.int .i64 0,.int .i64 0,.string ⟨#[97]⟩,.slice (some ⟨w.heap.size + 1 + 1,0,none⟩) 1 1] 76 (0,0)):=by
  unfold ahW
  iterate 2 rw [Below.heap_alloc _ _ _ (by simp only [World.size_alloc];omega)]
  exact alloc_atH _ _ (by simp only [World.size_alloc])
 have k4:(ahW w).heap[w.heap.size + 1 + 1 + 1 + 1]? = some (.cells #[.slice (some ⟨w.heap.size + 1 + 1 + 1,0,none⟩) 1 1] 25 (0,0)):=by
  unfold ahW
  rw [Below.heap_alloc _ _ _ (by simp only [World.size_alloc];omega)]
  exact alloc_atH _ _ (by simp only [World.size_alloc])
 have k5:(ahW w).heap[w.heap.size + 1 + 1 + 1 + 1 + 1]? = some (.cells (ahE2.flatMap fun e=>evL e none 0 0).toArray 47 (0,0)):=by
  unfold ahW
  exact alloc_atH _ _ (by simp only [World.size_alloc])
 have w0:W64 0:=by unfold W64;decide
 have hs0:SsAt 0 (ahW w) (some ⟨w.heap.size,0,none⟩) [.mk 0 0 [98] []]:=ss_oneH (s:=.mk 0 0 [98] []) (wa:=none) (wc:=0) k0 (Nat.le_refl _) w0 w0 (by decide) (Nat.zero_le _) (fun i hi=>absurd hi (Nat.not_lt_zero _))
 have hx:XAt 1 (ahW w) ahX [.int .i64 3,.slice none 0 0,.slice (some ⟨w.heap.size,0,none⟩) 1 1,.string ⟨#[]⟩,.int .i64 0,.string ⟨#[]⟩,.int .i64 0] :=
  ⟨none,0,some ⟨w.heap.size,0,none⟩,1,rfl,Nat.le_refl _,Nat.le_refl _,w64_3H,w0,w0,Nat.zero_le _,Nat.zero_le _,Nat.zero_le _,Nat.le_of_ble_eq_true rfl,RowP.nil _ _ _ _,hs0⟩
 have hxs:XsAt 1 (ahW w) (some ⟨w.heap.size + 1 + 1,0,none⟩) [ahX]:=xs_oneH k2 rfl hx
 obtain ⟨he2,he1⟩:=ah_evs k5
 exact ⟨hb,k4,ss_oneH (s:=.mk 0 0 [97] [ahX]) (wa:=some ⟨w.heap.size + 1 + 1,0,none⟩) (wc:=1) k3 (Nat.le_refl _) w0 w0 (by decide) (Nat.le_of_ble_eq_true rfl) hxs,he2,he1⟩
set_option maxRecDepth 100000 in
set_option maxHeartbeats 4000000 in
theorem awake15_any (w:World) (hE:EnvT w):Calls Tryz.prog 8 #[] w fun e w'=>e = .returned (.bool true) ∧ Below w.heap.size w w':=by
 obtain ⟨W,hW⟩:∃ W,W = ahW w:=⟨_,rfl⟩
 obtain ⟨hb,h4,hss,he2,he1⟩:=ahW_spec w
 rw [← hW] at hb h4 hss he2 he1
 have HB:=Lib.hid hb
 have HV:Hid (∀ (n:Nat) (evs:List Ev) W2,Below W.heap.size W W2 → n ≤ 2 → EvsAt W (some ⟨w.heap.size + 1 + 1 + 1 + 1 + 1,0,none⟩) n evs → (∀ e ∈ evs,EvSm e) → wtEs evs ≤ 1048576 → Calls Tryz.prog 10 #[.slice (some ⟨w.heap.size + 1 + 1 + 1 + 1 + 1,0,none⟩) n n,.agg #[.slice (some ⟨w.heap.size + 1 + 1 + 1,0,none⟩) 1 1]] W2 fun e w'=>∃ A cc,e = .returned (.tuple #[.slice A (verdN 1 evs ahP).1.length cc,.int .i64 (verdN 1 evs ahP).2]) ∧ VdAt w' A (verdN 1 evs ahP).1.length (verdN 1 evs ahP).1 ∧ Below W2.heap.size W2 w'):=Lib.hid fun n evs W2 hW2 hn hev hsm hwt=>by
  have hbb:=hb.trans (hW2.mono hb.size)
  refine (verdH_any (f:=1) (by decide) (some ⟨w.heap.size + 1 + 1 + 1 + 1 + 1,0,none⟩) n n evs (some ⟨w.heap.size + 1 + 1 + 1,0,none⟩) 1 ahP W2 ⟨hev.below hW2,by omega,hsm,hwt,(hE.below hbb).rng,(hE.below hbb).tab⟩ (SsAt.below hss hW2) (Nat.le_of_ble_eq_true rfl)).mono ?_
  rintro e w' ⟨A,cc,g1,_,g2,g3⟩
  exact ⟨A,cc,g1,g2,g3⟩
 have HV1:Hid (Calls Tryz.prog 10 #[.slice (some ⟨w.heap.size + 1 + 1 + 1 + 1 + 1,0,none⟩) 1 1,.agg #[.slice (some ⟨w.heap.size + 1 + 1 + 1,0,none⟩) 1 1]] W.drew fun e w'=>∃ A cc,e = .returned (.tuple #[.slice A 1 cc,.int .i64 0]) ∧ VdAt w' A 1 [(0,1)] ∧ Below W.heap.size W w'):=Lib.hid (by
  have:=HV.out 1 ahE1 W.drew ((Below.refl _ _).drew) (by decide) he1 ah_sm1 (by decide)
  rw [ah_v1] at this
  exact this.mono fun e w' ⟨A,cc,g1,g2,g3⟩=>⟨A,cc,g1,g2,((Below.refl _ _).drew).trans (g3.mono (Nat.le_refl _))⟩)
 have HV2:Hid (∀ W2,Below W.heap.size W W2 → Calls Tryz.prog 10 #[.slice (some ⟨w.heap.size + 1 + 1 + 1 + 1 + 1,0,none⟩) 2 2,.agg #[.slice (some ⟨w.heap.size + 1 + 1 + 1,0,none⟩) 1 1]] W2 fun e w'=>∃ A cc,e = .returned (.tuple #[.slice A 1 cc,.int .i64 0]) ∧ VdAt w' A 1 [(0,2)] ∧ Below W2.heap.size W2 w'):=Lib.hid fun W2 hW2=>by
  have:=HV.out 2 ahE2 W2 hW2 (by decide) he2 ah_sm2 (by decide)
  rw [ah_v2] at this
  exact this
 have HPC:Hid (∀ W2,Below W.heap.size W W2 → W2.cell? ⟨w.heap.size + 1 + 1 + 1 + 1,0,none⟩ = some (.slice (some ⟨w.heap.size + 1 + 1 + 1,0,none⟩) 1 1)):=Lib.hid fun W2 hW2=>by
  rw [cell_heap ((hW2.block _ (heap_lt h4)).trans h4)];rfl
 have x0:=HPC.out W (Below.refl _ _)
 unfold ahW at hW
 have HW:=Lib.hid hW
 clear hW hb h4 hss he2 he1 hE HV
 go_enter Tryz.func8,Tryz.ntmps8
 go_wp2_with fail
 rw [← HW.out]
 go_region_with (first | (go_at_call 10;(with_reducible refine HV1.out.mono ?_);rintro e w2 ⟨A1,c1,rfl,hv1,hb2⟩;have HB2:=Lib.hid hb2;have HD1:=Lib.hid hv1;have x2:=HPC.out w2 hb2;clear hv1 hb2))
 all_goals
  go_wp2_with fail
  (with_reducible refine (HV2.out _ HB2.out).mono ?_)
  rintro e w3 ⟨A2,c2,rfl,hv2,hb3⟩
  obtain ⟨b1,o1,rfl,_,y1,y2⟩:=(HD1.out.below hb3).2 0 (Nat.lt_succ_self _)
  obtain ⟨b2,o2,rfl,_,y3,y4⟩:=hv2.2 0 (Nat.lt_succ_self _)
  simp only [Nat.zero_mul,Nat.add_zero,List.getElem_cons_zero] at y1 y2 y3 y4
  have HB3:=Lib.hid (HB.out.trans ((HB2.out.trans (hb3.mono HB2.out.size)).mono HB.out.size))
  clear hb3 hv2 HD1
  go_wp2_with fail
  go_ret
  exact ⟨rfl,HB3.out⟩
end Go.Proofs.YtgjokdngbocehaaGreatDoor
