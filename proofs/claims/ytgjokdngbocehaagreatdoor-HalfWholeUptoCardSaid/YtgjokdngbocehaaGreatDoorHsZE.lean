/-
  half.read of a document's beginning.
-/
import Derived.Test.YtgjokdngbocehaaGreatDoorHsA
import Derived.Test.YtgjokdngbocehaaGreatDoorHsC
import Derived.Test.YtgjokdngbocehaaGreatDoorHsD
import Derived.Test.YtgjokdngbocehaaGreatDoorHsE
import Derived.Test.YtgjokdngbocehaaGreatDoorHsL
import Derived.Test.YtgjokdngbocehaaGreatDoorHsN
import Derived.Test.YtgjokdngbocehaaGreatDoorHsQ
import Derived.Test.YtgjokdngbocehaaGreatDoorHsR
import Derived.Test.YtgjokdngbocehaaGreatDoorHsS
import Derived.Test.YtgjokdngbocehaaGreatDoorHsU
import Derived.Test.YtgjokdngbocehaaGreatDoorHsV
import Derived.Test.YtgjokdngbocehaaGreatDoorHsX
import Derived.Test.YtgjokdngbocehaaGreatDoorHsZA
import Derived.Test.YtgjokdngbocehaaGreatDoorHsZD
namespace Go.Proofs.YtgjokdngbocehaaGreatDoor
open Go.RowKit
theorem infoHN:(Tryz.prog.info? 99).map (fun i=>(i.zero,i.size,i.bytes)) = some (some (.agg #[.int .i64 0,.int .i64 0,.int .i64 0,.string ⟨#[]⟩,.slice none 0 0,.string ⟨#[]⟩,.int .i64 0,.int .i64 0,.int .i64 0,.int .i64 0,.bool false,.string ⟨#[]⟩,.int .i64 0,.int .i64 0]),14,152):=by kernel_rfl
def readN (evs:List Ev) (st:BegS):List HN:=(hAll evs.length evs evs.length).1.modify 0 fun h=>{ h with op:=!decide (st.opn = [] ∧ st.cnt ≠ 0) }
theorem readN_ok {evs:List Ev} {s:BegS} (hk:HOk evs.length evs evs.length s (hAll evs.length evs evs.length)) (hsm:∀ e ∈ evs,EvSm e) (hwt:wtEs evs ≤ 1048576) (hn:evs.length ≤ 1048576) :
  1 ≤ (readN evs s).length ∧ (readN evs s).length ≤ 1048577 ∧ (∀ (i:Nat) (h:HN),(readN evs s)[i]? = some h → 1 ≤ i → 0 ≤ h.par ∧ h.par < (i:Int)) ∧ (∀ h ∈ readN evs s,h.txt.length ≤ 1048576) ∧ (∀ h ∈ readN evs s,h.ev.ats.length ≤ 1048576 ∧ ∀ p ∈ h.ev.ats,p.2.length ≤ 1048576) ∧ (∀ h,(readN evs s)[0]? = some h → h.par = -1 ∧ h.kd = 0):=by
 have hget:∀ (i:Nat) (h:HN),(readN evs s)[i]? = some h → ∃ y,(hAll evs.length evs evs.length).1[i]? = some y ∧ h.par = y.par ∧ h.kd = y.kd ∧ h.txt = y.txt ∧ h.ev = y.ev:=by
  intro i h hi
  obtain ⟨y,h1,h2⟩:=modify_get hi
  rcases h2 with rfl | rfl
  ·exact ⟨_,h1,rfl,rfl,rfl,rfl⟩
  ·exact ⟨_,h1,rfl,rfl,rfl,rfl⟩
 have hmem:∀ h ∈ readN evs s,∃ y ∈ (hAll evs.length evs evs.length).1,h.txt = y.txt ∧ h.ev = y.ev:=by
  intro h hh
  obtain ⟨i,hi,rfl⟩:=List.getElem_of_mem hh
  obtain ⟨y,h1,_,_,h3,h4⟩:=hget i _ (List.getElem?_eq_getElem hi)
  exact ⟨y,List.mem_of_getElem? h1,h3,h4⟩
 have hlen:(readN evs s).length = (hAll evs.length evs evs.length).1.length:=List.length_modify _ _ _
 refine ⟨by rw [hlen];exact hk.pos,by rw [hlen];have:=hk.len;omega,fun i h hi h1=>?_,fun h hh=>?_,fun h hh=>?_,fun h hh=>?_⟩
 ·obtain ⟨y,g1,g2,_⟩:=hget i h hi
  rw [g2];exact hk.par i y g1 h1
 ·obtain ⟨y,g1,g2,_⟩:=hmem h hh
  rw [g2];exact Nat.le_trans (hk.txt y g1) (Nat.le_trans (txS_le _ _) hwt)
 ·obtain ⟨y,g1,_,g2⟩:=hmem h hh
  rw [g2]
  rcases hk.ev y g1 with h3 | h3
  ·exact ⟨(hsm _ h3).2.2.1,fun p hp=>((hsm _ h3).2.2.2 p hp).2⟩
  ·rw [h3];exact ⟨Nat.zero_le _,fun p hp=>by cases hp⟩
 ·obtain ⟨y,g1,g2,g3,_⟩:=hget 0 h hh
  rw [g2,g3];exact hk.root y g1
theorem doneH_any (cb:Nat) (d:Bool) (w:World) (h:w.cell? ⟨cb,3,none⟩ = some (.bool d)):Calls Tryz.prog 44 #[.pointer (some ⟨cb,0,none⟩)] w fun e w'=>e = .returned (.bool d) ∧ w' = w:=by
 go_enter Tryz.func44,Tryz.ntmps44
 go_wp2_with fail
 go_ret
 exact ⟨rfl,rfl⟩
theorem RInv.done {w W:World} {a:Option Addr} {n c g l' cc:Nat} {evs:List Ev} {s sC:BegS} {o:List Nat} {vC vO:Value} (h:RInv w a n c sC (hAll n evs n).1 o vC (.slice (some ⟨g,0,none⟩) l' cc) vO W) (hn:n = evs.length) (hk:HOk n evs n s (hAll n evs n)) (hl:(hAll n evs n).1.length = l')
  (hsm:∀ e ∈ evs,EvSm e) (hwt:wtEs evs ≤ 1048576) (hnn:n ≤ 1048576) (d:Bool) (hd:decide (s.opn = [] ∧ s.cnt ≠ 0) = d):HAt (W.setCell ⟨g,10,none⟩ (.bool (!d))) (w.heap.size + 2) (readN evs s) ∧ Below w.heap.size w (W.setCell ⟨g,10,none⟩ (.bool (!d))):=by
 subst hn
 obtain ⟨h1,h2,h3,h4,h5,_⟩:=readN_ok hk hsm hwt hnn
 have ht:=h.turn hl 0 10 hk.pos (by decide) (fun h=>{ h with op:=!d }) (.bool (!d)) (fun _=>rfl) (fun y A m c _=>hn_open (!d) y A m c)
 rw [Nat.zero_mul,Nat.zero_add] at ht
 have e:(hAll evs.length evs evs.length).1.modify 0 (fun h=>{ h with op:=!d }) = readN evs s:=by unfold readN;rw [hd]
 rw [e] at ht
 exact ⟨ht.hat h1 h2 h3 h4 h5,ht.old⟩
theorem modify_twoH {α:Type} (l:List α) (i:Nat) (f g:α → α):(l.modify i f).modify i g = l.modify i fun x=>g (f x):=by
 refine List.ext_getElem? fun j=>?_
 rw [List.getElem?_modify,List.getElem?_modify,List.getElem?_modify]
 cases l[j]? with
 | none=>rfl
 | some x=>by_cases e:i = j <;> simp [e]
theorem beg_none {evs:List Ev} {s:BegS} (k:Nat) (hk:k < evs.length) (h:begAll beg0 (evs.take k) = some s) (hb:begOk s evs[k] = false):begAll beg0 evs = none:=by
 rw [← List.take_append_drop k evs,begAll_app,h,List.drop_eq_getElem_cons hk]
 simp only [Option.bind_some,begAll]
 rw [if_neg (by rw [hb];simp)]
theorem hAll_close (N:Nat) (evs:List Ev) (k:Nat) (h:k < evs.length) (h2:evs[k].kind = 2):hAll N evs (k + 1) = ((hAll N evs k).1.modify (topH (hAll N evs k).2) (endH k),(hAll N evs k).2.dropLast):=by
 rw [hAll_succ N evs k h]
 unfold hNext
 rw [if_neg (by omega),if_neg (by omega)]
set_option maxRecDepth 1000000 in
set_option maxHeartbeats 8000000 in
theorem read_any (a:Option Addr) (n c:Nat) (evs:List Ev) (w:World) (hE:EvsAt w a n evs) (hn:n ≤ 1048576) (hsm:∀ e ∈ evs,EvSm e) (hwt:wtEs evs ≤ 1048576) (hR:RangesAt w 2) (hT:Lib.Utf8Tabs 0 1 w) :
  Calls Tryz.prog 28 #[.slice a n c] w fun e w'=>((∃ st,begAll beg0 evs = some st ∧ e = .returned (.tuple #[.pointer (some ⟨w.heap.size + 2,0,none⟩),.int .i64 0]) ∧ HAt w' (w.heap.size + 2) (readN evs st)) ∨ (begAll beg0 evs = none ∧ e = .returned (.tuple #[.pointer none,.int .i64 6]))) ∧ Below w.heap.size w w':=by
 obtain ⟨j0,hj,hjz0,hjz1,hjz2⟩:=info_parts infoInt
 obtain ⟨i0,hi,hz0,hz1,hz2⟩:=info_parts infoHN
 have HE:=Lib.hid hE
 have HN:Hid (n = evs.length):=Lib.hid hE.1
 have HSM:=Lib.hid hsm
 have HWT:=Lib.hid hwt
 have HRT:Hid (∀ W,Below w.heap.size w W → RangesAt W 2 ∧ Lib.Utf8Tabs 0 1 W):=Lib.hid fun W hW=>⟨hR.below hW,Utf8Tabs_below hT hW⟩
 have HSTART:=Lib.hid fun W=>RInv.start w a n c W
 clear hE hsm hwt hR hT
 go_enter Tryz.func28,Tryz.ntmps28
 go_wp2_with fail
 go_loopw [6,22] (fun ov iv wr=>∃ (k:Nat) (s:BegS) (vC vN:Value),iv = .int .i64 k ∧ k ≤ n ∧ Hid (begAll beg0 (evs.take k) = some s) ∧ Hid (RInv w a n c s (hAll n evs k).1 (hAll n evs k).2 vC vN ov wr)) (fun _ iv _=>n - (intOf iv).toNat)
 case atStart=>exact ⟨0,beg0,.slice none 0 0,_,rfl,Nat.zero_le _,Lib.hid rfl,Lib.hid (HSTART.out _ rfl)⟩
 case round =>
  obtain ⟨k,s,vC,vN,rfl,hk,hbs,hbi⟩:=hrel
  by_cases hkn:k < n
  ·have hkl:k < evs.length:=by rw [← HN.out];exact hkn
   obtain ⟨b,o,A,m,c',rfl,hb,hmc,hA,hcells⟩:=HE.out.at8 k hkl
   obtain ⟨e0,e1,e2,e3,e4,e5,e6,e7⟩:=hcells wr hbi.out.old
   by_cases hokb:begOk s evs[k] = false
   ·have HTF:Hid (∀ W,RInv w (some ⟨b,o,none⟩) n c s (hAll n evs k).1 (hAll n evs k).2 vC vN u6 W → Calls Tryz.prog 43 #[.pointer (some ⟨w.heap.size,0,none⟩),.agg #[.int .i64 evs[k].kind,.int .i64 evs[k].num,.int .i64 evs[k].dep,.string (strL evs[k].name),.slice A m c',.string (strL evs[k].text),.int .i64 evs[k].fr,.int .i64 evs[k].tt]] W fun r w'=>r = .returned (.bool false) ∧ Below w.heap.size w w'):=Lib.hid fun W hW=>by
     refine (take_bad _ _ vC s evs[k] A m c' W hW.chk hokb (hA.below hW.old) (HSM.out _ (List.getElem_mem hkl)) (HRT.out W hW.old).1 (HRT.out W hW.old).2).mono ?_
     rintro r w' ⟨h1,h2⟩
     exact ⟨h1,hW.old.trans (h2.mono hW.old.size)⟩
    have HB1:Hid (∀ o',RInv w (some ⟨b,o,none⟩) n c s (hAll n evs k).1 (hAll n evs k).2 vC vN u6 (wr.alloc o')):=Lib.hid fun o'=>hbi.out.below ((Below.refl _ _).alloc (Nat.le_refl _) o')
    have HNO:=Lib.hid (beg_none k hkl hbs.out hokb)
    have i2:(0:Int) ≤ (k:Int):=by omega
    have i3:(k:Int) < (n:Int):=by omega
    clear hcells hA hmc hokb
    go_wp2_with fail
    (with_reducible refine (HTF.out _ (HB1.out _)).mono ?_)
    rintro r w2 ⟨rfl,hb2⟩
    have HB2:=Lib.hid hb2
    clear hb2
    go_wp2_with fail
    go_ret2
    exact ⟨.inr ⟨HNO.out,rfl⟩,HB2.out⟩
   have hok:begOk s evs[k] = true:=by simpa using hokb
   have hnext:begAll beg0 (evs.take (k + 1)) = some (begNext s evs[k]):=by
    rw [List.take_succ_eq_append_getElem hkl,begAll_snoc,hbs.out]
    simp [hok]
   clear hokb
   have hinv:=HOk.all n evs k (by omega) s hbs.out
   have hcap:s.opn.length < 1048576 ∧ s.next < 1048576:=by
    have h1:=hinv.len
    have h2:=hinv.cnt
    have h3:=hinv.opn
    have h4:=beg_le _ _ _ hbs.out
    simp only [beg0,List.length_nil,List.length_take] at h4
    omega
   have HTK:Hid (∀ W,RInv w (some ⟨b,o,none⟩) n c s (hAll n evs k).1 (hAll n evs k).2 vC vN u6 W → Calls Tryz.prog 43 #[.pointer (some ⟨w.heap.size,0,none⟩),.agg #[.int .i64 evs[k].kind,.int .i64 evs[k].num,.int .i64 evs[k].dep,.string (strL evs[k].name),.slice A m c',.string (strL evs[k].text),.int .i64 evs[k].fr,.int .i64 evs[k].tt]] W fun r w'=>∃ v',r = .returned (.bool true) ∧ RInv w (some ⟨b,o,none⟩) n c (begNext s evs[k]) (hAll n evs k).1 (hAll n evs k).2 v' vN u6 w' ∧ Moved w.heap.size vC v' W w'):=Lib.hid fun W hW=>by
    refine (take_ok _ _ vC s evs[k] A m c' W hW.chk hok (hA.below hW.old) (HSM.out _ (List.getElem_mem hkl)) hcap (HRT.out W hW.old).1 (HRT.out W hW.old).2).mono ?_
    rintro r w' ⟨v',h1,h2,h3⟩
    exact ⟨v',h1,hW.take h3 h2,h3⟩
   have HB1:Hid (∀ o',RInv w (some ⟨b,o,none⟩) n c s (hAll n evs k).1 (hAll n evs k).2 vC vN u6 (wr.alloc o') ∧ (wr.alloc o').heap[wr.heap.size]? = some o' ∧ (wr.alloc o').heap.size = wr.heap.size + 1):=Lib.hid fun o'=>⟨hbi.out.below ((Below.refl _ _).alloc (Nat.le_refl _) o'),heap_alloc_new wr o',by simp⟩
   obtain ⟨a1,a2,a3,_,_⟩:=hbi.out.ne
   have hws:=hbi.out.size
   have HBL:Hid (vC.ownBlock ≠ some wr.heap.size ∧ wr.heap.size ≠ w.heap.size):=Lib.hid ⟨fun e=>by have:=(a1 _ e).2;omega,by omega⟩
   have HOI:=Lib.hid hinv
   have HOK2:=Lib.hid (⟨hok,hnext⟩:_ ∧ _)
   have HMA:=Lib.hid (⟨hmc,hA⟩:_ ∧ _)
   have i2:(0:Int) ≤ (k:Int):=by omega
   have i3:(k:Int) < (n:Int):=by omega
   clear a1 a2 a3 hcells hA hmc hok hnext hinv hws
   go_wp2_with fail
   (with_reducible refine (HTK.out _ (HB1.out _).1).mono ?_)
   rintro r w2 ⟨vC',rfl,hbi2,hmv⟩
   have HEB:=Lib.hid ((hmv.block wr.heap.size (by rw [(HB1.out _).2.2];omega) HBL.out.2 HBL.out.1).trans (HB1.out _).2.1)
   have HBI2:=Lib.hid hbi2
   clear hmv hbi2 e0 e1 e2 e3 e4 e5 e6 e7
   have hol:1 ≤ (hAll n evs k).2.length:=by have:=HOI.out.opn;omega
   have hon:(hAll n evs k).2.length ≤ 1048576:=by have:=HOI.out.opn;omega
   obtain ⟨ol,hoe⟩:∃ ol,(hAll n evs k).2.length = ol + 1:=⟨(hAll n evs k).2.length - 1,by omega⟩
   have hown:=HBI2.out.opn
   rw [hoe] at hown
   obtain ⟨go,oc,rfl,hoc,_,hgow,_,hgoc⟩:=own_some hown
   have htop:w2.cell? ⟨go,ol,none⟩ = some (.int .i64 ((topH (hAll n evs k).2:Nat):Int)):=hgoc ol _ (by
    unfold topH tsC
    rw [List.getElem?_map,List.getElem?_map,hoe,Nat.add_sub_cancel,List.getElem?_eq_getElem (by omega)]
    rfl)
   have HTOP:Hid (topH (hAll n evs k).2 < (hAll n evs k).1.length):=Lib.hid (HOI.out.lt _ (topH_mem hol))
   have ewo:IntKind.i64.wrap (((ol:Int) + 1) - 1) = (ol:Int):=by rw [IntWalk.i64_in _ (by omega)];omega
   have io1:(0:Int) ≤ (ol:Int):=by omega
   have io2:(ol:Int) < (ol:Int) + 1:=by omega
   obtain ⟨tp,htp⟩:∃ tp,topH (hAll n evs k).2 = tp:=⟨_,rfl⟩
   have HTPE:=Lib.hid htp
   rw [htp] at htop HTOP
   clear hgoc hown hol htp
   have hbg:=HBI2.out.bg
   have t1:w2.cell? ⟨w.heap.size + 1 + 1,1,none⟩ = some vN:=by rw [cell_heap (show w2.heap[w.heap.size + 1 + 1]? = _ from hbg)];rfl
   have tf:w2.frozen? ⟨w.heap.size + 1 + 1,1,none⟩ = false:=frozen_heap (show w2.heap[w.heap.size + 1 + 1]? = _ from hbg)
   have ewk:IntKind.i64.wrap ((k:Int) + 1) = (k:Int) + 1:=IntWalk.i64_in _ (by omega)
   clear hbg
   by_cases h2:evs[k].kind = 2
   ·have e0:w2.cell? ⟨wr.heap.size,0,none⟩ = some (.int .i64 2):=by rw [cell_heap HEB.out,← h2];rfl
    obtain ⟨ncs,hncs,hndr⟩:=HBI2.out.nds
    obtain ⟨nl,hnl⟩:∃ nl,(hAll n evs k).1.length = nl:=⟨_,rfl⟩
    have htl:tp < nl:=by have:=HTOP.out;omega
    obtain ⟨oa,na,rfl,hna,hoa0,hoas⟩:=own_slice hncs
    obtain ⟨gn,rfl⟩:∃ gn,oa = some ⟨gn,0,none⟩:=by
     cases oa with
     | none=>have:=hoa0 rfl;omega
     | some ad=>obtain ⟨g,rfl,_⟩:=hoas ad rfl;exact ⟨g,rfl⟩
    rw [hnl] at hncs t1
    obtain ⟨x10,y10⟩:=own_cell hncs (tp * 14 + 10) (by omega)
    obtain ⟨x13,y13⟩:=own_cell hncs (tp * 14 + 13) (by omega)
    have fz:=fun q=>hncs.frozenAt q
    have HNC:=Lib.hid (⟨hncs,hndr,hnl⟩:_ ∧ _ ∧ _)
    have hgn:=(hncs.lt gn rfl).2
    have io3:(0:Int) ≤ (tp:Int):=by omega
    have io4:(tp:Int) < (nl:Int):=by omega
    clear hncs hndr hoa0 hoas
    have HX:Hid (RInv w (some ⟨b,o,none⟩) n c (begNext s evs[k]) (hAll n evs (k + 1)).1 (hAll n evs (k + 1)).2 vC' (.slice (some ⟨gn,0,none⟩) (hAll n evs k).1.length na) (.slice (some ⟨go,0,none⟩) ol oc) ((w2.setCell ⟨gn,tp * 14 + 10,none⟩ (.bool false)).setCell ⟨gn,tp * 14 + 13,none⟩ (.int .i64 ((k:Int) + 1)))):=Lib.hid (by
     have g1:=HBI2.out.turn rfl tp 10 HTOP.out (by decide) (fun h=>{ h with op:=false }) (.bool false) (fun _=>rfl) (fun h A m c _=>hn_open false h A m c)
     have g2:=g1.turn (List.length_modify _ _ _) tp 13 (by rw [List.length_modify];exact HTOP.out) (by decide) (fun h=>{ h with en:=k + 1 }) (.int .i64 ((k:Int) + 1)) (fun _=>rfl) (fun h A m c _=>hn_end (k + 1) h A m c)
     have g3:=g2.pop hoe
     rw [modify_twoH] at g3
     rw [hAll_close n evs k hkl h2,HTPE.out]
     exact g3)
    have HNB:=Lib.hid HOK2.out.2
    go_wp2_with fail
    go_roundw
    case rel=>exact ⟨k + 1,begNext s evs[k],vC',_,by go_num,by omega,HNB,HX⟩
    case measure=>simp [intOf];omega
   ·obtain ⟨hnum,h01⟩:=begOk_new HOK2.out.1 h2
    obtain ⟨nl,hnl⟩:∃ nl,(hAll n evs k).1.length = nl:=⟨_,rfl⟩
    obtain ⟨ncs,hncs,hndr⟩:=HBI2.out.nds
    obtain ⟨oa,na,rfl,hna,hoa0,hoas⟩:=own_slice hncs
    rw [hnl] at hncs t1
    have HNC:=Lib.hid (⟨hncs,hndr,hnl⟩:_ ∧ _ ∧ _)
    have hnlb:nl ≤ 1048577:=by have:=HOI.out.len;omega
    clear hncs hndr hoa0 hoas
    have hgo:=(hbi.out.ne.2.2.1 go rfl).2
    have hvn:=fun q e=>(hbi.out.ne.2.1 q e).2.1
    have hws2:wr.heap.size < w2.heap.size:=heap_lt HEB.out
    rcases h01 with h0 | h1
    ·have e0:w2.cell? ⟨wr.heap.size,0,none⟩ = some (.int .i64 0):=by rw [cell_heap HEB.out,← h0];rfl
     have HOWN:=Lib.hid HBI2.out.opn
     rw [hoe] at HOWN
     have hB2:=HBI2.out.size
     have HO1:Hid (∀ (vO':Value) (W w7:World),(∃ ob,W = w2.alloc ob) → w7.ownsRow (w.heap.size + 3) 3 1 vO' (ol + 1 + 1) (tsC ((hAll n evs k).2.map fun (q:Nat)=>(q:Int)) ++ [.int .i64 (nl:Int)]) → App W w7 (.slice (some ⟨go,0,none⟩) (ol + 1) oc) vO' → RInv w (some ⟨b,o,none⟩) n c (begNext s evs[k]) (hAll n evs k).1 ((hAll n evs k).2 ++ [nl]) vC' (.slice oa nl na) vO' w7 ∧ w7.heap[wr.heap.size]? = w2.heap[wr.heap.size]? ∧ wr.heap.size < w7.heap.size):=Lib.hid (by
      rintro vO' W w7 ⟨ob,rfl⟩ hown hap
      have h1:=(HBI2.out.below ((Below.refl w2.heap.size w2).alloc (Nat.le_refl _) ob)).open1 hoe hap hown
      rw [hnl] at h1
      have h2:=(hap.keep (k:=wr.heap.size) (by simp;omega) (fun e=>by have:=Option.some.inj (show some go = some wr.heap.size from e);omega)).trans (Below.heap_alloc w2 ob _ hws2)
      exact ⟨h1,h2,Nat.lt_of_lt_of_le (by simp;omega) hap.grown.size⟩)
     go_upto_region 16 with (at_builtin;go_must ((refine wpList_app w2 (by rfl) _ _ 66 (by rfl) (w.heap.size + 3) 3 j0 (.int .i64 0) 1 8 Tryz.underlying66 hj hjz0 hjz1 hjz2 (by rfl) (by decide) (.slice (some ⟨go,0,none⟩) (ol + 1) oc) (ol + 1) _ (by rfl) HOWN.out _ rfl 1 [.int .i64 nl] (by rfl) (by rfl) (by intro u hu;simp only [List.mem_cons,List.not_mem_nil,or_false] at hu;subst hu;rfl) (by omega) (by decide) (by omega) (fun vO' w7 hown7 hap7=>?_))))
     have HO7:=Lib.hid (HO1.out _ _ _ ⟨_,rfl⟩ hown7 hap7)
     have HBX:Hid (w7.heap[wr.heap.size]? = some (.cells (evC evs[k].kind evs[k].num evs[k].dep evs[k].name A m c' evs[k].text evs[k].fr evs[k].tt) 47 (0,0))):=Lib.hid (HO7.out.2.1.trans HEB.out)
     have e0:w7.cell? ⟨wr.heap.size,0,none⟩ = some (.int .i64 evs[k].kind):=by rw [cell_heap HBX.out];rfl
     have e1:w7.cell? ⟨wr.heap.size,1,none⟩ = some (.int .i64 evs[k].num):=by rw [cell_heap HBX.out];rfl
     have e2:w7.cell? ⟨wr.heap.size,2,none⟩ = some (.int .i64 evs[k].dep):=by rw [cell_heap HBX.out];rfl
     have e3:w7.cell? ⟨wr.heap.size,3,none⟩ = some (.string (strL evs[k].name)):=by rw [cell_heap HBX.out];rfl
     have e4:w7.cell? ⟨wr.heap.size,4,none⟩ = some (.slice A m c'):=by rw [cell_heap HBX.out];rfl
     have e5:w7.cell? ⟨wr.heap.size,5,none⟩ = some (.string (strL evs[k].text)):=by rw [cell_heap HBX.out];rfl
     have e6:w7.cell? ⟨wr.heap.size,6,none⟩ = some (.int .i64 evs[k].fr):=by rw [cell_heap HBX.out];rfl
     have e7:w7.cell? ⟨wr.heap.size,7,none⟩ = some (.int .i64 evs[k].tt):=by rw [cell_heap HBX.out];rfl
     have t1:w7.cell? ⟨w.heap.size + 1 + 1,1,none⟩ = some (.slice oa nl na):=by rw [cell_heap (show w7.heap[w.heap.size + 1 + 1]? = _ from HO7.out.1.bg)];rfl
     have ca2:∀ o,(w7.alloc o).cell? ⟨w.heap.size + 1 + 1,1,none⟩ = some (.slice oa nl na):=fun o=>by rw [cell_heap ((Below.heap_alloc w7 o (w.heap.size + 1 + 1) (by have:=HO7.out.1.size;omega)).trans (show w7.heap[w.heap.size + 1 + 1]? = _ from HO7.out.1.bg))];rfl
     obtain ⟨ncs7,hn7,hr7⟩:=HO7.out.1.nds
     rw [hnl] at hn7
     have HOWA:Hid (∀ o,(w7.alloc o).drew.ownsRow (w.heap.size + 1) 99 14 (.slice oa nl na) nl ncs7):=Lib.hid fun o=>(hn7.alloc o).drew
     have HNEW:Hid (∀ o,(w7.alloc o).drew.heap[w7.heap.size]? = some o):=Lib.hid fun o=>heap_alloc_new w7 o
     have HLE:Hid (∀ o,w.heap.size + 1 ≤ (w7.alloc o).drew.heap.size):=Lib.hid fun o=>by have:=HO7.out.1.size;simp;omega
     have HPU:Hid (∀ W v6 w6,(∃ o,W = (w7.alloc o).drew) → w6.ownsRow (w.heap.size + 1) 99 14 v6 (nl + 1) (ncs7 ++ hnL ⟨evs[k],1,(tp:Int),true,[],k,n⟩ A m c') → App W w6 (.slice oa nl na) v6 → RInv w (some ⟨b,o,none⟩) n c (begNext s evs[k]) (hAll n evs (k + 1)).1 (hAll n evs (k + 1)).2 vC' v6 vO' (w6.setCell ⟨w.heap.size + 2,1,none⟩ v6) ∧ w6.heap[w.heap.size + 1 + 1]? = some (.cells #[.slice (some ⟨b,o,none⟩) n c,.slice oa nl na] 95 (0,0))):=Lib.hid (by
      rintro W v6 w6 ⟨ob,rfl⟩ g1 g2
      have h1:=HO7.out.1.below (((Below.refl w7.heap.size w7).alloc (Nat.le_refl _) ob).drew)
      have h2:=h1.push (H:=⟨evs[k],1,(tp:Int),true,[],k,n⟩) hr7 (by rw [hnl];exact hn7.1) HMA.out.1 HMA.out.2 g2 (by rw [hnl];exact g1)
      rw [hAll_open n evs k hkl h0,HTPE.out,hnl]
      exact ⟨h2,(g2.keep (k:=w.heap.size + 2) (by have:=h1.size;omega) (fun e=>(h1.ne.2.1 _ e).2.2 rfl)).trans h1.bg⟩)
     have honm:nl + 1 ≤ 4294967296:=by omega
     clear hn7 hr7 hown7 hap7 HO1 HOWN h0 hnum h2
     have HNB:=Lib.hid HOK2.out.2
     go_region_law (first | (refine step_app _ rfl (.tmp 74) (.tmp 81) 93 rfl (w.heap.size + 1) 99 i0 _ 14 152 Tryz.underlying93 hi hz0 hz1 hz2 (by rfl) (by decide) (.slice oa nl na) nl ncs7 (by rfl) (HOWA.out _) w7.heap.size 1 (hnL ⟨evs[k],1,(tp:Int),true,[],k,n⟩ A m c') (by rfl) (by rfl) (HNEW.out _) (hnL_one _ _ _ _) honm (by decide) (HLE.out _) ?_;intro v6 w6 hown hap;obtain ⟨oa6,na6,rfl,_⟩:=own_slice hown;have HP6:=Lib.hid (HPU.out _ _ _ ⟨_,rfl⟩ hown hap);have d0:w6.cell? ⟨w.heap.size + 1 + 1,1,none⟩ = some (.slice oa nl na):=(by rw [cell_heap HP6.out.2];rfl);have fz:w6.frozen? ⟨w.heap.size + 1 + 1,1,none⟩ = false:=frozen_heap HP6.out.2;clear hap hown))
     all_goals
      have HR8:=Lib.hid HP6.out.1
      clear HP6 d0 fz
      go_wp2_with fail
      go_roundw
      case rel=>exact ⟨k + 1,begNext s evs[k],vC',_,by go_num,by omega,HNB,HR8⟩
      case measure=>simp [intOf];omega
    ·have e0:w2.cell? ⟨wr.heap.size,0,none⟩ = some (.int .i64 1):=by rw [cell_heap HEB.out,← h1];rfl
     go_upto_region 18 with fail
     have HK1:=Lib.hid h1
     have hB2:=HBI2.out.size
     have hBw:=hbi.out.size
     clear e0 h1 hnum h2
     have e0:w2.cell? ⟨wr.heap.size,0,none⟩ = some (.int .i64 evs[k].kind):=by rw [cell_heap HEB.out];rfl
     have e1:w2.cell? ⟨wr.heap.size,1,none⟩ = some (.int .i64 evs[k].num):=by rw [cell_heap HEB.out];rfl
     have e2:w2.cell? ⟨wr.heap.size,2,none⟩ = some (.int .i64 evs[k].dep):=by rw [cell_heap HEB.out];rfl
     have e3:w2.cell? ⟨wr.heap.size,3,none⟩ = some (.string (strL evs[k].name)):=by rw [cell_heap HEB.out];rfl
     have e4:w2.cell? ⟨wr.heap.size,4,none⟩ = some (.slice A m c'):=by rw [cell_heap HEB.out];rfl
     have e5:w2.cell? ⟨wr.heap.size,5,none⟩ = some (.string (strL evs[k].text)):=by rw [cell_heap HEB.out];rfl
     have e6:w2.cell? ⟨wr.heap.size,6,none⟩ = some (.int .i64 evs[k].fr):=by rw [cell_heap HEB.out];rfl
     have e7:w2.cell? ⟨wr.heap.size,7,none⟩ = some (.int .i64 evs[k].tt):=by rw [cell_heap HEB.out];rfl
     have ca2:∀ o,(w2.alloc o).cell? ⟨w.heap.size + 1 + 1,1,none⟩ = some (.slice oa nl na):=fun o=>by
      have hbg2:=HBI2.out.bg
      rw [hnl] at hbg2
      rw [cell_heap ((Below.heap_alloc w2 o (w.heap.size + 1 + 1) (by omega)).trans (show w2.heap[w.heap.size + 1 + 1]? = _ from hbg2))];rfl
     obtain ⟨ncs7,hn7,hr7⟩:=HBI2.out.nds
     rw [hnl] at hn7
     have HOWA:Hid (∀ o,(w2.alloc o).drew.ownsRow (w.heap.size + 1) 99 14 (.slice oa nl na) nl ncs7):=Lib.hid fun o=>(hn7.alloc o).drew
     have HNEW:Hid (∀ o,(w2.alloc o).drew.heap[w2.heap.size]? = some o):=Lib.hid fun o=>heap_alloc_new w2 o
     have HLE:Hid (∀ o,w.heap.size + 1 ≤ (w2.alloc o).drew.heap.size):=Lib.hid fun o=>by simp;omega
     have HPU:Hid (∀ W v6 w6,(∃ o,W = (w2.alloc o).drew) → w6.ownsRow (w.heap.size + 1) 99 14 v6 (nl + 1) (ncs7 ++ hnL ⟨evs[k],2,(tp:Int),false,evs[k].text,k,k + 1⟩ A m c') → App W w6 (.slice oa nl na) v6 → RInv w (some ⟨b,o,none⟩) n c (begNext s evs[k]) ((hAll n evs k).1 ++ [⟨evs[k],2,(tp:Int),false,evs[k].text,k,k + 1⟩]) (hAll n evs k).2 vC' v6 (.slice (some ⟨go,0,none⟩) (ol + 1) oc) (w6.setCell ⟨w.heap.size + 2,1,none⟩ v6) ∧ w6.heap[w.heap.size + 1 + 1]? = some (.cells #[.slice (some ⟨b,o,none⟩) n c,.slice oa nl na] 95 (0,0)) ∧ (w6.setCell ⟨w.heap.size + 2,1,none⟩ v6).heap[wr.heap.size]? = w2.heap[wr.heap.size]? ∧ v6.ownBlock ≠ some wr.heap.size):=Lib.hid (by
      rintro W v6 w6 ⟨ob,rfl⟩ g1 g2
      have h1:=HBI2.out.below (((Below.refl w2.heap.size w2).alloc (Nat.le_refl _) ob).drew)
      have hvn2:=fun e=>hvn wr.heap.size e
      rw [hnl] at h1 hvn2
      have hne:(Value.slice oa nl na).ownBlock ≠ some wr.heap.size:=fun e=>by have:=hvn2 e;omega
      have hlt:wr.heap.size < (w2.alloc ob).drew.heap.size:=by simp;omega
      have h2:=h1.push (H:=⟨evs[k],2,(tp:Int),false,evs[k].text,k,k + 1⟩) hr7 (by rw [hnl];exact hn7.1) HMA.out.1 HMA.out.2 g2 (by rw [hnl];exact g1)
      exact ⟨h2,(g2.keep (k:=w.heap.size + 2) (by have:=h1.size;omega) (fun e=>(h1.ne.2.1 _ e).2.2 rfl)).trans h1.bg,(Below.heap_setCell _ _ _ _ (show wr.heap.size ≠ w.heap.size + 2 by omega)).trans ((g2.keep hlt hne).trans (Below.heap_alloc w2 ob _ hws2)),g2.ne hlt hne⟩)
     have honm:nl + 1 ≤ 4294967296:=by omega
     clear hn7 hr7
     go_cut [] from 87 to 103 (fun wx=>Hid (∃ g' c6,RInv w (some ⟨b,o,none⟩) n c (begNext s evs[k]) ((hAll n evs k).1 ++ [⟨evs[k],2,(tp:Int),false,evs[k].text,k,k + 1⟩]) (hAll n evs k).2 vC' (.slice (some ⟨g',0,none⟩) (nl + 1) c6) (.slice (some ⟨go,0,none⟩) (ol + 1) oc) wx ∧ wx.heap[wr.heap.size]? = w2.heap[wr.heap.size]? ∧ g' ≠ wr.heap.size))
     case first =>
      go_region_law (first | (refine step_app _ rfl (.tmp 91) (.tmp 100) 93 rfl (w.heap.size + 1) 99 i0 _ 14 152 Tryz.underlying93 hi hz0 hz1 hz2 (by rfl) (by decide) (.slice oa nl na) nl ncs7 (by rfl) (HOWA.out _) w2.heap.size 1 (hnL ⟨evs[k],2,(tp:Int),false,evs[k].text,k,k + 1⟩ A m c') (by rfl) (by rfl) (HNEW.out _) (hnL_one _ _ _ _) honm (by decide) (HLE.out _) ?_;intro v6 w6 hown hap;obtain ⟨oa6,na6,rfl,_,hz6,hs6⟩:=own_slice hown;have HP6:=Lib.hid (HPU.out _ _ _ ⟨_,rfl⟩ hown hap);have HS6:=Lib.hid (⟨hz6,hs6⟩:_ ∧ _);have d0:w6.cell? ⟨w.heap.size + 1 + 1,1,none⟩ = some (.slice oa nl na):=(by rw [cell_heap HP6.out.2.1];rfl);have fz:w6.frozen? ⟨w.heap.size + 1 + 1,1,none⟩ = false:=frozen_heap HP6.out.2.1;clear hap hown hz6 hs6))
      all_goals
       have HE:Hid (∃ g',oa6 = some ⟨g',0,none⟩):=Lib.hid (by
        cases oa6 with
        | none=>have:=HS6.out.1 rfl;omega
        | some ad=>obtain ⟨g,rfl,_⟩:=HS6.out.2 ad rfl;exact ⟨g,rfl⟩)
       go_wp2_with fail
       go_meet
       obtain ⟨g',rfl⟩:=HE.out
       exact Lib.hid ⟨g',_,HP6.out.1,HP6.out.2.2.1,fun e=>HP6.out.2.2.2 (by rw [e];rfl)⟩
     case rest =>
      obtain ⟨g',c6,HR,HB,hgb⟩:=hcut.out
      have HI0:Hid (RInv w (some ⟨b,o,none⟩) n c (begNext s evs[k]) (txK evs[k].text (hAll n evs k).2 ((hAll n evs k).1 ++ [⟨evs[k],2,(tp:Int),false,evs[k].text,k,k + 1⟩]) 0) (hAll n evs k).2 vC' (.slice (some ⟨g',0,none⟩) (nl + 1) c6) (.slice (some ⟨go,0,none⟩) (ol + 1) oc) wc ∧ wc.heap[wr.heap.size]? = some (.cells (evC evs[k].kind evs[k].num evs[k].dep evs[k].name A m c' evs[k].text evs[k].fr evs[k].tt) 47 (0,0))):=Lib.hid ⟨by rw [txK_zero];exact HR,HB.trans HEB.out⟩
      have HFIN:Hid (hAll n evs (k + 1) = (txK evs[k].text (hAll n evs k).2 ((hAll n evs k).1 ++ [⟨evs[k],2,(tp:Int),false,evs[k].text,k,k + 1⟩]) (ol + 1),(hAll n evs k).2)):=Lib.hid (by rw [hAll_text n evs k hkl HK1.out,HTPE.out,hoe])
      have HLT:Hid (∀ j,(h:j < (hAll n evs k).2.length) → (hAll n evs k).2[j] < nl):=Lib.hid fun j h=>by have:=HOI.out.lt _ (List.getElem_mem h);omega
      have HNB:=Lib.hid HOK2.out.2
      clear HR HB hcut e0 e1 e2 e3 e4 e5 e6 e7 ca2 t1 HPU HOWA HNEW HLE HEB HBI2 HNC
      obtain ⟨bx,hbx⟩:∃ bx,wr.heap.size = bx:=⟨_,rfl⟩
      rw [hbx] at HI0 hgb
      rw [hbx]
      obtain ⟨S0,hS0⟩:∃ S0,(hAll n evs k).1 ++ [(⟨evs[k],2,(tp:Int),false,evs[k].text,k,k + 1⟩:Go.Proofs.YtgjokdngbocehaaGreatDoor.HN)] = S0:=⟨_,rfl⟩
      have HSL:Hid (S0.length = nl + 1):=Lib.hid (by rw [← hS0,List.length_append,hnl];rfl)
      rw [hS0] at HI0 HFIN
      have HTB:Hid (∀ j,∀ h ∈ txK evs[k].text (hAll n evs k).2 S0 j,h.txt.length ≤ 4194304):=Lib.hid fun j h hh=>by
       have htl:=(HSM.out _ (List.getElem_mem hkl)).2.1
       obtain ⟨i,hi,rfl⟩:=List.getElem_of_mem hh
       have h5:=foldl_add_len evs[k].text 2097152 ((hAll n evs k).2.take j) (HOI.out.nod.sublist (List.take_sublist _ _)) S0 (fun y hy=>by
        rw [← hS0] at hy
        rcases List.mem_append.1 hy with hy | hy
        ·have h1:=HOI.out.txt y hy
         have h2:=txS_le evs k
         have h3:=HWT.out
         omega
        ·obtain rfl:=List.mem_singleton.1 hy
         show evs[k].text.length ≤ _
         omega) i _ (List.getElem?_eq_getElem hi)
       omega
      clear hS0
      go_wp2_with fail
      go_loopw [106] (fun jv wr=>∃ j:Nat,jv = .int .i64 j ∧ j ≤ ol + 1 ∧ Hid (RInv w (some ⟨b,o,none⟩) n c (begNext s evs[k]) (txK evs[k].text (hAll n evs k).2 S0 j) (hAll n evs k).2 vC' (.slice (some ⟨g',0,none⟩) (nl + 1) c6) (.slice (some ⟨go,0,none⟩) (ol + 1) oc) wr ∧ wr.heap[bx]? = some (.cells (evC evs[k].kind evs[k].num evs[k].dep evs[k].name A m c' evs[k].text evs[k].fr evs[k].tt) 47 (0,0)))) (fun jv _=>(ol + 1) - (intOf jv).toNat)
      case atStart=>exact ⟨0,rfl,Nat.zero_le _,HI0⟩
      case round =>
       obtain ⟨j,rfl,hj,HJ⟩:=hrel
       by_cases hjl:j < ol + 1
       ·have hjo:j < (hAll n evs k).2.length:=by rw [hoe];exact hjl
        have hqn:=HLT.out j hjo
        have HTS:=Lib.hid (txK_succ evs[k].text (hAll n evs k).2 S0 j hjo)
        have hown:=HJ.out.1.opn
        rw [hoe] at hown
        have y0:wr.cell? ⟨go,j,none⟩ = some (.int .i64 (((hAll n evs k).2[j]:Nat):Int)):=by
         rw [hown.cellAt j (by omega)]
         unfold tsC
         rw [List.getElem?_map,List.getElem?_map,List.getElem?_eq_getElem hjo]
         rfl
        generalize (hAll n evs k).2[j] = q at *
        have hlx:(txK evs[k].text (hAll n evs k).2 S0 j).length = nl + 1:=by rw [txK_len];exact HSL.out
        have hqx:q < (txK evs[k].text (hAll n evs k).2 S0 j).length:=by rw [hlx];omega
        obtain ⟨y1,y2⟩:=HJ.out.1.txtAt hlx q hqx
        have HA:=Lib.hid (HJ.out.1.addT hlx q hqx evs[k].text)
        rw [← HTS.out] at HA
        have hcl:=HTB.out j _ (List.getElem_mem hqx)
        obtain ⟨cs0,hg0,-⟩:=HJ.out.1.nds
        have hg2:=(hg0.lt g' rfl).2
        have t1:wr.cell? ⟨w.heap.size + 1 + 1,1,none⟩ = some (.slice (some ⟨g',0,none⟩) (nl + 1) c6):=by rw [cell_heap (show wr.heap[w.heap.size + 1 + 1]? = _ from HJ.out.1.bg)];rfl
        have e5:wr.cell? ⟨bx,5,none⟩ = some (.string (strL evs[k].text)):=by rw [cell_heap HJ.out.2];rfl
        have HBK:Hid (∀ v,(wr.setCell ⟨g',q * 14 + 11,none⟩ v).heap[bx]? = wr.heap[bx]?):=Lib.hid fun v=>Below.heap_setCell _ _ _ _ (fun e=>hgb e.symm)
        generalize ((txK evs[k].text (hAll n evs k).2 S0 j)[q]'hqx).txt = ct at *
        have i4:(0:Int) ≤ (q:Int):=by omega
        have i5:(q:Int) < (nl:Int) + 1:=by omega
        have i6:(0:Int) ≤ (j:Int):=by omega
        have i7:(j:Int) < (ol:Int) + 1:=by omega
        have ewj:IntKind.i64.wrap ((j:Int) + 1) = (j:Int) + 1:=IntWalk.i64_in _ (by omega)
        have hcat:∀ W,(Op.stringOp .add (strL ct) (strL evs[k].text)).run Tryz.prog W = .ok (.string (strL (ct ++ evs[k].text))) W:=fun W=>run_catL _ _ (by have:=(HSM.out _ (List.getElem_mem hkl)).2.1;omega) W
        clear hown hlx hqx hg0 HTS hqn hcl
        go_wp2_with fail
        go_region
        go_wp2_with fail
        go_roundw
        case rel=>exact ⟨j + 1,by go_num,by omega,Lib.hid ⟨HA.out.below ((Below.refl _ _).drew),(HBK.out _).trans HJ.out.2⟩⟩
        case measure=>simp [intOf];omega
       ·have hj2:j = ol + 1:=by omega
        have HR9:Hid (RInv w (some ⟨b,o,none⟩) n c (begNext s evs[k]) (hAll n evs (k + 1)).1 (hAll n evs (k + 1)).2 vC' (.slice (some ⟨g',0,none⟩) (nl + 1) c6) (.slice (some ⟨go,0,none⟩) (ol + 1) oc) wr):=Lib.hid (by rw [HFIN.out];have:=HJ.out.1;rw [hj2] at this;exact this)
        clear HJ
        go_wp2_with fail
        go_roundw
        case rel=>exact ⟨k + 1,begNext s evs[k],vC',_,by go_num,by omega,HNB,HR9⟩
        case measure=>simp [intOf];omega
  ·have hk2:k = n:=by omega
   subst hk2
   have htk:evs.take k = evs:=List.take_of_length_le (by rw [HN.out];exact Nat.le_refl _)
   have hb:=hbs.out
   have hinv:=HOk.all k evs k (by rw [HN.out];exact Nat.le_refl _) s hb
   rw [htk] at hb
   have HSB:=Lib.hid hb
   obtain ⟨g,cc,hvN,hg⟩:=hbi.out.slice hinv.pos
   subst hvN
   obtain ⟨d,hd⟩:∃ d,decide (s.opn = [] ∧ s.cnt ≠ 0) = d:=⟨_,rfl⟩
   have c3:wr.cell? ⟨w.heap.size,3,none⟩ = some (.bool d):=by rw [cell_heap hbi.out.chk.at',hd];rfl
   have HD:Hid (Calls Tryz.prog 44 #[.pointer (some ⟨w.heap.size,0,none⟩)] wr.drew fun e w'=>e = .returned (.bool d) ∧ w' = wr.drew):=Lib.hid (doneH_any w.heap.size d wr.drew c3)
   have HRES:=Lib.hid (hbi.out.done HN.out hinv rfl HSM.out HWT.out hn d hd)
   obtain ⟨nl,hnl⟩:∃ nl,(hAll k evs k).1.length = nl:=⟨_,rfl⟩
   have hnl1:1 ≤ nl:=by rw [← hnl];exact hinv.pos
   have t1:wr.cell? ⟨w.heap.size + 1 + 1,1,none⟩ = some (.slice (some ⟨g,0,none⟩) nl cc):=by rw [cell_heap (show wr.heap[w.heap.size + 1 + 1]? = _ from hbi.out.bg),← hnl];rfl
   obtain ⟨A,m,c1,-,-,h3⟩:=hbi.out.nodeAt rfl 0 hinv.pos
   have y10:wr.cell? ⟨g,10,none⟩ = some (.bool ((hAll k evs k).1[0]'hinv.pos).op):=by
    have:=h3 10 (by decide)
    rw [Nat.zero_mul,Nat.zero_add] at this
    rw [this,hnL_eq];rfl
   obtain ⟨cs0,hg0,-⟩:=hbi.out.nds
   have f10:=hg0.frozenAt 10
   have i4:(0:Int) < (nl:Int):=by omega
   generalize ((hAll k evs k).1[0]'hinv.pos).op = op0 at *
   clear hb hinv hbi c3 h3 hg0 hnl hnl1 hd
   go_wp2_with fail
   go_region_with (first | (go_at_call 44;(with_reducible refine HD.out.mono ?_);rintro e w6 ⟨rfl,rfl⟩))
   all_goals
    go_wp2_with fail
    go_ret2
    exact ⟨.inl ⟨s,HSB.out,rfl,HRES.out.1.below ((Below.refl _ _).drew)⟩,HRES.out.2.trans (((Below.refl _ _).drew).mono HRES.out.2.size)⟩
end Go.Proofs.YtgjokdngbocehaaGreatDoor
namespace Go.Proofs.YtgjokdngbocehaaGreatDoor
open Go.RowKit
set_option maxRecDepth 100000 in
set_option maxHeartbeats 2000000 in
theorem check_any {f:Nat} (hf:f ≤ 1048576) (a:Option Addr) (c:Nat) (ss:List PS) (w:World) (hE:EnvT w) (h:SsAt f w a ss) (hn:ss.length ≤ 1048576) :
  Calls Tryz.prog 12 #[.agg #[.slice a ss.length c]] w fun e w'=>e = .returned (.int .i64 (checkN f ss)) ∧ Below w.heap.size w w':=by
 have hb0:=(Below.refl w.heap.size w).alloc (Nat.le_refl _) (.cells #[.slice a ss.length c] 25)
 have hb0s:(w.alloc (.cells #[.slice a ss.length c] 25)).heap.size = w.heap.size + 1:=by simp
 have HB0:=Lib.hid hb0
 have HGP:Hid (Calls Tryz.prog 31 #[.agg #[.slice a ss.length c]] (w.alloc (.cells #[.slice a ss.length c] 25)) fun e w'=>e = .returned (.bool (goodPB (goodXB f) ss)) ∧ Below (w.alloc (.cells #[.slice a ss.length c] 25)).heap.size (w.alloc (.cells #[.slice a ss.length c] 25)) w') :=
  Lib.hid (goodPath_any (goodX_all f) a c ss _ (hE.below hb0) (SsAt.below h hb0) hn)
 have HDP:Hid (goodPB (goodXB f) ss = true → ∀ W,Below w.heap.size w W → Calls Tryz.prog 32 #[.agg #[.slice a ss.length c]] W fun e w'=>e = .returned (.int .i64 (deepPN (deepXN f) ss:Nat)) ∧ Below W.heap.size W w') :=
  Lib.hid fun hg W hW=>deepPath_any (deepX_all f hf) hf a c ss W (SsAt.below h hW) hn hg
 have HCL:Hid (∀ W,Below (w.alloc (.cells #[.slice a ss.length c] 25)).heap.size (w.alloc (.cells #[.slice a ss.length c] 25)) W → W.cell? ⟨w.heap.size,0,none⟩ = some (.slice a ss.length c)):=Lib.hid fun W hW=>by
  refine (hW.cell (p:=⟨w.heap.size,0,none⟩) (by rw [hb0s];exact Nat.lt_succ_self _)).trans ?_
  rw [cell_heap (heap_alloc_new w _)];rfl
 obtain ⟨R,hR⟩:∃ R,checkN f ss = R:=⟨_,rfl⟩
 rw [hR]
 have HR:Hid ((if (goodPB (goodXB f) ss && decide (deepPN (deepXN f) ss ≤ 200)) = true then (0:Int) else 6) = R):=Lib.hid hR
 clear hR hb0 hb0s h hE
 generalize goodPB (goodXB f) ss = G at *
 generalize deepPN (deepXN f) ss = d at *
 generalize ss.length = n at *
 go_enter Tryz.func12,Tryz.ntmps12
 go_wp2_with fail
 (with_reducible refine HGP.out.mono ?_)
 rintro e w2 ⟨rfl,hb2⟩
 have HB2:=Lib.hid (HB0.out.trans (hb2.mono HB0.out.size))
 have c0:=HCL.out w2 hb2
 clear hb2
 cases G with
 | false =>
  go_wp2_with fail
  go_ret
  exact ⟨ret_int HR.out,HB2.out⟩
 | true =>
  have HD:=Lib.hid (HDP.out rfl w2 HB2.out)
  clear HDP
  go_wp2_with fail
  (with_reducible refine HD.out.mono ?_)
  rintro e w3 ⟨rfl,hb3⟩
  have HB3:=Lib.hid (HB2.out.trans (hb3.mono HB2.out.size))
  clear hb3
  by_cases h2:d ≤ 200
  ·have h2':(d:Int) ≤ 200:=by omega
   have HF:Hid (0 = R):=Lib.hid (by rw [← HR.out,decide_eq_true h2];rfl)
   go_wp2_with fail
   go_ret
   exact ⟨ret_int HF.out,HB3.out⟩
  ·have h2':(200:Int) < (d:Int):=by omega
   have HF:Hid (6 = R):=Lib.hid (by rw [← HR.out,decide_eq_false h2];rfl)
   go_wp2_with fail
   go_ret
   exact ⟨ret_int HF.out,HB3.out⟩
end Go.Proofs.YtgjokdngbocehaaGreatDoor
namespace Go.Proofs.YtgjokdngbocehaaGreatDoor
open Go.RowKit
theorem w64_3H:W64 3:=by unfold W64;decide
theorem ss_oneH {f:Nat} {w:World} {G:Nat} {s:PS} {wa:Option Addr} {wc:Nat} {e:TypeId} {fz:Nat × Nat} (hG:w.heap[G]? = some (.cells (stepC s wa wc).toArray e fz)) (h0:s.wher.length ≤ wc) (h1:W64 s.axis) (h2:W64 s.test) (h3:s.name.length ≤ 1048576) (h4:s.wher.length ≤ 1048576) (hx:XsAt f w wa s.wher):SsAt f w (some ⟨G,0,none⟩) [s]:=fun i hi=>by
 have h0':i = 0:=by simpa using hi
 subst h0'
 refine ⟨G,0,stepC s wa wc,rfl,heap_lt hG,rfl,fun j hj=>?_,wa,wc,rfl,h0,h1,h2,h3,h4,hx⟩
 rw [cell_heap hG]
 match j,hj with
 | 0,_=>rfl
 | 1,_=>rfl
 | 2,_=>rfl
 | 3,_=>rfl
theorem xs_oneH {f:Nat} {w:World} {G:Nat} {x:PX} {cs:List Value} {e:TypeId} {fz:Nat × Nat} (hG:w.heap[G]? = some (.cells cs.toArray e fz)) (hl:cs.length = 7) (hx:XAt f w x cs):XsAt f w (some ⟨G,0,none⟩) [x]:=fun i hi=>by
 have h0':i = 0:=by simpa using hi
 subst h0'
 refine ⟨G,0,cs,rfl,heap_lt hG,hl,fun j hj=>?_,hx⟩
 rw [cell_heap hG]
 simp
theorem checkN_goodH {f:Nat} {ss:List PS} (h:checkN f ss = 0):goodPB (goodXB f) ss = true:=by
 unfold checkN checkB at h
 cases hg:goodPB (goodXB f) ss with
 | true=>rfl
 | false=>rw [hg] at h;simp at h
end Go.Proofs.YtgjokdngbocehaaGreatDoor
namespace Go.Proofs.YtgjokdngbocehaaGreatDoor
open Go.RowKit
structure BegQ (w:World) (a:Option Addr) (n:Nat) (evs:List Ev):Prop where
 at':EvsAt w a n evs
 le:n ≤ 1048576
 sm:∀ e ∈ evs,EvSm e
 wt:wtEs evs ≤ 1048576
 rng:RangesAt w 2
 tab:Lib.Utf8Tabs 0 1 w
theorem BegQ.below {w W:World} {a:Option Addr} {n:Nat} {evs:List Ev} (h:BegQ w a n evs) (hb:Below w.heap.size w W):BegQ W a n evs :=
 ⟨h.at'.below hb,h.le,h.sm,h.wt,h.rng.below hb,Utf8Tabs_below h.tab hb⟩
theorem BegQ.env {w:World} {a:Option Addr} {n:Nat} {evs:List Ev} (h:BegQ w a n evs):EnvT w:=⟨h.rng,h.tab⟩
theorem BegQ.read {w:World} {a:Option Addr} {n c:Nat} {evs:List Ev} (h:BegQ w a n evs):Calls Tryz.prog 28 #[.slice a n c] w fun e w'=>((∃ st,begAll beg0 evs = some st ∧ e = .returned (.tuple #[.pointer (some ⟨w.heap.size + 2,0,none⟩),.int .i64 0]) ∧ HAt w' (w.heap.size + 2) (readN evs st)) ∨ (begAll beg0 evs = none ∧ e = .returned (.tuple #[.pointer none,.int .i64 6]))) ∧ Below w.heap.size w w' :=
 read_any a n c evs w h.at' h.le h.sm h.wt h.rng h.tab
theorem beg_hok {evs:List Ev} {st:BegS} (hs:begAll beg0 evs = some st):HOk evs.length evs evs.length st (hAll evs.length evs evs.length) :=
 HOk.all evs.length evs evs.length (Nat.le_refl _) st (by rw [List.take_length];exact hs)
theorem BegQ.root {w:World} {a:Option Addr} {n:Nat} {evs:List Ev} {st:BegS} (h:BegQ w a n evs) (hs:begAll beg0 evs = some st):∀ h,(readN evs st)[0]? = some h → h.par = -1 ∧ h.kd = 0 :=
 (readN_ok (beg_hok hs) h.sm h.wt (by rw [← h.at'.1];exact h.le)).2.2.2.2.2
theorem checkN_two (f:Nat) (ss:List PS):checkN f ss = 0 ∨ checkN f ss = 6:=by unfold checkN;split <;> simp
end Go.Proofs.YtgjokdngbocehaaGreatDoor
namespace Go.Proofs.YtgjokdngbocehaaGreatDoor
open Go.RowKit
theorem readN_at {evs:List Ev} {st:BegS} (i:Nat):(readN evs st)[i + 1]? = (hAll evs.length evs evs.length).1[i + 1]?:=by
 unfold readN
 rw [List.getElem?_modify]
 cases (hAll evs.length evs evs.length).1[i + 1]? <;> simp
theorem readN_root {evs:List Ev} {st:BegS}:(readN evs st)[0]? = (hAll evs.length evs evs.length).1[0]?.map fun h=>{ h with op:=!decide (st.opn = [] ∧ st.cnt ≠ 0) }:=by
 unfold readN
 rw [List.getElem?_modify]
 cases (hAll evs.length evs evs.length).1[0]? <;> simp
theorem beg_rel {evs:List Ev} {st:BegS} (h:begAll beg0 evs = some st):RbR evs.length evs st (hAll evs.length evs evs.length).1 (hAll evs.length evs evs.length).2 (rnAll beg0 [] evs):=by
 have:=RbR.all evs.length evs evs.length (Nat.le_refl _) st (by rw [List.take_length];exact h)
 rwa [List.take_length] at this
theorem open_up {evs:List Ev} {st:BegS} (h:begAll beg0 evs = some st) (i:Nat) (r:RN) (hr:(rnAll beg0 [] evs)[i]? = some r) (hc:r.clo < 0):isOpn st i ∧ (r.par = -1 ∨ (0 ≤ r.par ∧ isOpn st r.par)):=by
 have hs:=rnAll_spec h
 have hx:(nodesB evs)[i]? = some ((nodesB evs)[i]'(by have:=get_lt hr;have:=hs.len;omega)):=List.getElem?_eq_getElem _
 obtain ⟨r',g1,g2,g3,g4,g5⟩:=hs.at' i _ hx
 rw [hr] at g1
 cases g1
 have hrg:=(nodesB_inv h).rng i _ hx
 have ho:isOpn st i:=by
  by_cases ho:isOpn st i
  ·exact ho
  ·have:=(g5 ho).2.1;omega
 refine ⟨ho,?_⟩
 have hax:=nodesB_ax h
 have hpl:=hax.plt i _ hx
 by_cases hn:r.par = -1
 ·exact .inl hn
 ·refine .inr ⟨by omega,?_⟩
  obtain ⟨o,ho1,ho2⟩:=ho
  obtain ⟨u,v,huv⟩:=List.append_of_mem ho1
  obtain ⟨x',hx1,hx2⟩:=hax.par o v ⟨u,huv.symm⟩
  have:o.1.toNat = i:=by omega
  rw [this,hx] at hx1
  cases hx1
  unfold topOf at hx2
  cases hv:v with
  | nil=>rw [hv] at hx2;simp at hx2;omega
  | cons a v' =>
   rw [hv] at hx2
   simp at hx2
   exact ⟨a,by rw [huv,hv];simp,by omega⟩
theorem opI_of {hs:List HN} {k:Nat} {h:HN} (hk:hs[k]? = some h):opI hs k = if h.op then 1 else 0:=by unfold opI;rw [hk];rfl
theorem lk_of {evs:List Ev} {st:BegS} (h:begAll beg0 evs = some st):Lk (readN evs st) (rnAll beg0 [] evs) ∧ ∀ i r,(rnAll beg0 [] evs)[i]? = some r → ((lastR (rnAll beg0 [] evs) i:Nat):Int) = r.last:=by
 have hr:=beg_rel h
 have hlen:(readN evs st).length = (rnAll beg0 [] evs).length + 1:=by
  have:(readN evs st).length = (hAll evs.length evs evs.length).1.length:=List.length_modify _ _ _
  rw [this];exact hr.len
 refine ⟨⟨hlen,fun k hk=>?_,axR_of h,fun k h1 h2=>?_⟩,fun i r hi=>?_⟩
 ·have hrk:(rnAll beg0 [] evs)[k]? = some (rnAll beg0 [] evs)[k]:=List.getElem?_eq_getElem hk
  obtain ⟨y,g1,g2⟩:=hr.at' k _ hrk
  unfold parH parR
  rw [readN_at,g1,hrk]
  show y.par.toNat = _
  rw [g2.2.1];rfl
 ·obtain ⟨i,rfl⟩:∃ i,k = i + 1:=⟨k - 1,by omega⟩
  have hil:i < (rnAll beg0 [] evs).length:=by omega
  have hrk:(rnAll beg0 [] evs)[i]? = some (rnAll beg0 [] evs)[i]:=List.getElem?_eq_getElem hil
  obtain ⟨y,g1,g2⟩:=hr.at' i _ hrk
  have hyk:(readN evs st)[i + 1]? = some y:=by rw [readN_at];exact g1
  rw [opI_of hyk]
  have hp:parH (readN evs st) (i + 1) = ((rnAll beg0 [] evs)[i].par + 1).toNat:=by
   unfold parH;rw [hyk];show y.par.toNat = _;rw [g2.2.1]
  rw [hp]
  cases ho:y.op with
  | false=>exact (opI_3 _ _).1
  | true =>
   have hclo:=(g2.2.2.2.2.2.2.1 ho).1
   obtain ⟨hop,hup⟩:=open_up h i _ hrk (by omega)
   rcases hup with hup | ⟨hup,hpo⟩
   ·have e:((rnAll beg0 [] evs)[i].par + 1).toNat = 0:=by omega
    rw [e]
    obtain ⟨y0,k1,_⟩:=hr.root
    have hy0:(readN evs st)[0]? = some { y0 with op:=!decide (st.opn = [] ∧ st.cnt ≠ 0) }:=by rw [readN_root,k1];rfl
    rw [opI_of hy0]
    have:st.opn ≠ []:=by obtain ⟨o,ho1,_⟩:=hop;intro hnil;rw [hnil] at ho1;cases ho1
    simp [this]
   ·obtain ⟨j,hj⟩:∃ j:Nat,(rnAll beg0 [] evs)[i].par = (j:Int):=⟨(rnAll beg0 [] evs)[i].par.toNat,by omega⟩
    have e:((rnAll beg0 [] evs)[i].par + 1).toNat = j + 1:=by omega
    rw [e]
    have hs:=rnAll_spec h
    have hinv:=nodesB_inv h
    rw [hj] at hpo
    obtain ⟨o,ho1,ho2⟩:=hpo
    have hon:=hinv.opn o ho1
    have hnx:=hinv.nxt
    have hjl:j < (nodesB evs).length:=by omega
    obtain ⟨r',q1,_,_,q4,_⟩:=hs.at' j _ (List.getElem?_eq_getElem hjl)
    have hcl:=(q4 ⟨o,ho1,ho2⟩).2.1
    obtain ⟨y',p1,p2⟩:=hr.at' j r' q1
    have hy':(readN evs st)[j + 1]? = some y':=by rw [readN_at];exact p1
    rw [opI_of hy']
    cases ho':y'.op with
    | true=>exact Int.le_refl _
    | false=>have:=(p2.2.2.2.2.2.2.2.1 ho').1;omega
 ·obtain ⟨x,r',_,g1,_,_,g2,_⟩:=rn_at h i (get_lt hi)
  rw [hi] at g1
  cases g1
  exact g2
end Go.Proofs.YtgjokdngbocehaaGreatDoor
namespace Go.Proofs.YtgjokdngbocehaaGreatDoor
open Go.RowKit
theorem pars_of {evs:List Ev} {st:BegS} (h:begAll beg0 evs = some st):Pars (readN evs st):=by
 have hok:=beg_hok h
 have hl:=(lk_of h).1.len
 have hll:(readN evs st).length = (hAll evs.length evs evs.length).1.length:=List.length_modify _ _ _
 constructor
 ·have hp:=hok.pos
  have h0:(hAll evs.length evs evs.length).1[0]? = some ((hAll evs.length evs evs.length).1[0]'hp):=List.getElem?_eq_getElem _
  unfold parI
  rw [readN_root,h0]
  exact (hok.root _ h0).1
 ·intro k h1 h2
  obtain ⟨i,rfl⟩:∃ i,k = i + 1:=⟨k - 1,by omega⟩
  refine parI_of h2 ?_
  have hg:(readN evs st)[i + 1]? = some (readN evs st)[i + 1]:=List.getElem?_eq_getElem h2
  rw [readN_at] at hg
  exact (hok.par _ _ hg h1).1
end Go.Proofs.YtgjokdngbocehaaGreatDoor
