/-
  half: path.
-/
import Derived.Test.YtgjokdngbocehaaGreatDoorHsA
import Derived.Test.YtgjokdngbocehaaGreatDoorHsD
import Derived.Test.YtgjokdngbocehaaGreatDoorHsE
import Derived.Test.YtgjokdngbocehaaGreatDoorHsN
import Derived.Test.YtgjokdngbocehaaGreatDoorHsQ
import Derived.Test.YtgjokdngbocehaaGreatDoorHsS
import Derived.Test.YtgjokdngbocehaaGreatDoorHsT
import Derived.Test.YtgjokdngbocehaaGreatDoorHsV
import Derived.Test.YtgjokdngbocehaaGreatDoorHsX
import Derived.Test.YtgjokdngbocehaaGreatDoorHsZE
namespace Go.Proofs.YtgjokdngbocehaaGreatDoor
open Go.RowKit
theorem alloc_atH (w:World) (o:Obj) {k:Nat} (h:k = w.heap.size):(w.alloc o).heap[k]? = some o:=by subst h;exact heap_alloc_new w o
set_option maxRecDepth 100000 in
set_option maxHeartbeats 8000000 in
theorem path_any {hb:Nat} {hs:List HN} {f:Nat} (HX:HalfX hb hs f) (ss:List PS) (pa:Option Addr) (pc:Nat) (w:World) (hH:HAt w hb hs) (hroot:∀ h,hs[0]? = some h → h.par = -1) (hp:SsAt f w pa ss) (hpl:ss.length ≤ 1048576) (hg:goodPB (goodXB f) ss = true) :
  Calls Tryz.prog 29 #[.pointer (some ⟨hb,0,none⟩),.agg #[.slice pa ss.length pc]] w fun e w'=>∃ P,e = .returned (.slice (some ⟨P,0,none⟩) hs.length hs.length) ∧ w.heap.size ≤ P ∧ TsAt w' (some ⟨P,0,none⟩) hs.length (pathT (exprT hs f) hs ss ss.length) ∧ Below w.heap.size w w':=by
 obtain ⟨i0,hi,hz0,hz1,hz2⟩:=info_parts infoTru
 obtain ⟨q,hq⟩:∃ q,ss.length = q:=⟨_,rfl⟩
 have HQ:=Lib.hid hq
 rw [hq] at hpl
 obtain ⟨na,nc,hlt,hcn,hrow⟩:=hH.get
 have HROW:=Lib.hid hrow
 have HPAR:=Lib.hid hH.par
 have HROOT:=Lib.hid hroot
 have HSS:=Lib.hid hp
 have hcap:=hH.cap
 have hpos:=hH.pos
 obtain ⟨n,hnn⟩:∃ n,hs.length = n:=⟨_,rfl⟩
 have HN:=Lib.hid hnn
 have HCN:Hid (∀ W,Below w.heap.size w W → W.cell? ⟨hb,1,none⟩ = some (.slice na n nc)):=Lib.hid (by rw [← hnn];exact hcn)
 have HP0:Hid (pathT (exprT hs f) hs ss 0 = rowOf n fun k=>truthI (decide (k = 0))):=Lib.hid (by rw [pathT_zero];unfold led0;rw [hnn])
 have HPS:Hid (∀ j (hj:j < ss.length),pathT (exprT hs f) hs ss (j + 1) = metT (exprT hs f) hs ss[j] (rowOf n (frT hs (pathT (exprT hs f) hs ss j) ss[j].axis))):=Lib.hid fun j hj=>by rw [pathT_succ _ _ _ j hj];unfold ledT;rw [hnn]
 have HME:Hid (∀ j (hj:j < ss.length) wa wn a l W,Below w.heap.size w W → XsAt f W wa ss[j].wher → ss[j].wher.length ≤ 1048576 → TsAt W a n l → Calls Tryz.prog 50 #[.pointer (some ⟨hb,0,none⟩),.agg (stepC ss[j] wa wn).toArray,.slice a n n] W fun e w'=>∃ P,e = .returned (.slice (some ⟨P,0,none⟩) n n) ∧ W.heap.size ≤ P ∧ TsAt w' (some ⟨P,0,none⟩) n (metT (exprT hs f) hs ss[j] l) ∧ Below W.heap.size W w'):=Lib.hid fun j hj wa wn a l W hW g1 g2 g3=>by
  have hgs:=goodPB_at hg j hj
  have:=met_any HX ss[j] wa wn a n l W (hH.below hW) g1 g2 (List.all_eq_true.2 fun y hy=>by
   obtain ⟨i,hi,rfl⟩:=List.getElem_of_mem hy
   exact goodSB_at hgs i hi) (by rw [hnn];exact g3)
  rw [hnn] at this;exact this
 have HOR2:Hid (∀ (p q:Int) (W:World) (Q:Nat),W.heap[Q]? = some (.cells #[.int .i64 p,.int .i64 q] 48 (0,0)) → Calls Tryz.prog 49 #[.slice (some ⟨Q,0,none⟩) 2 2] W fun e w'=>e = .returned (.int .i64 (orL [p,q])) ∧ w' = W):=Lib.hid fun p q W Q h=>kOr_any _ 2 2 [p,q] W (ts_two h) (by decide)
 have HORD:Hid (∀ (p q:Int) (W:World) (Q:Nat),W.heap[Q]? = some (.cells #[.int .i64 p,.int .i64 q] 48 (0,0)) → Calls Tryz.prog 49 #[.slice (some ⟨Q,0,none⟩) 2 2] W.drew fun e w'=>e = .returned (.int .i64 (orL [p,q])) ∧ w' = W.drew):=Lib.hid fun p q W Q h=>kOr_any _ 2 2 [p,q] W.drew (ts_two h) (by decide)
 have HTR:Hid (∀ (b:Bool) (W:World),Calls Tryz.prog 48 #[.bool b] W fun e w'=>e = .returned (.int .i64 (truthI b)) ∧ w' = W):=Lib.hid fun b W=>truth_any b W
 rw [hq,hnn]
 obtain ⟨R,hR⟩:∃ R,pathT (exprT hs f) hs ss q = R:=⟨_,rfl⟩
 have HRR:=Lib.hid hR
 rw [hR]
 rw [hnn] at hcap hpos
 have HMK:Hid (∀ w1,w1.ownsRow (w.alloc (.cells #[.slice pa q pc] 25)).heap.size 48 1 (.slice (some ⟨(w.alloc (.cells #[.slice pa q pc] 25)).heap.size,0,none⟩) n n) n (madeCells (Value.int .i64 0).cells (n * 1)).toList → (w.alloc (.cells #[.slice pa q pc] 25)).grownBy w1 none → MI w w.heap.size (.cells #[.slice pa q pc] 25) (w.heap.size + 1) n (List.replicate n 0) w1):=Lib.hid fun w1 hown hgr=>by
  obtain ⟨h1,h2⟩:=MI.made (w:=w) (k:=w.heap.size) (o:=(.cells #[.slice pa q pc] 25)) ((Below.refl w.heap.size w).alloc (Nat.le_refl _) _) (heap_alloc_new w _) hown hgr
  rw [World.size_alloc] at h1
  exact h1
 have c0:=HCN.out w (Below.refl _ _)
 clear hR hH hrow hcn hp hg HX hq hroot
 go_enter Tryz.func29,Tryz.ntmps29
 go_wp2_with (at_make;go_must ((refine wpList_make_full (w.alloc (.cells #[.slice pa q pc] 25)) (by rfl) _ _ 81 (by rfl) (w.alloc (.cells #[.slice pa q pc] 25)).heap.size 48 i0 _ 1 Tryz.underlying81 hi hz0 hz1 .i64 .i64 (n:Int) (n:Int) n (by rfl) (by rfl) rfl rfl (by rw [hz2];omega) (by unfold maxLen;omega) (Nat.le_refl _) (fun w1 hown hgr=>?_));have HMI:=Lib.hid (HMK.out w1 hown hgr)))
 clear hown hgr HMK
 generalize hP:w.heap.size + 1 = P at *
 go_loopw [22] (fun iv wr=>∃ k:Nat,iv = .int .i64 k ∧ k ≤ n ∧ Hid (MI w w.heap.size (.cells #[.slice pa q pc] 25) P n (mixR n k (fun k=>truthI (decide (k = 0))) (fun _=>0)) wr)) (fun iv _=>n - (intOf iv).toNat)
 case atStart=>exact ⟨0,rfl,Nat.zero_le _,Lib.hid (by rw [← rep_mix];exact HMI.out)⟩
 case round =>
  obtain ⟨k,rfl,hk,HM⟩:=hrel
  by_cases hkn:k < n
  ·have HNX:Hid (MI w w.heap.size (.cells #[.slice pa q pc] 25) P n (mixR n (k + 1) (fun k=>truthI (decide (k = 0))) (fun _=>0)) (wr.setCell ⟨P,k,none⟩ (.int .i64 (truthI (decide (k = 0)))))):=Lib.hid (by
    have:=HM.out.set k (truthI (decide (k = 0)))
    rwa [mixR_set _ _ _ _ _ rfl] at this)
   have z1:=HM.out.at k hkn
   generalize (mixR n k (fun k=>truthI (decide (k = 0))) (fun _=>0)).getD k 0 = zz at z1
   have f1:=HM.out.frozen k
   have l1:=(HM.out.own.lt _ rfl).2
   have HTD:Hid (∀ W:World,Calls Tryz.prog 48 #[.bool ((k:Int) == 0)] W fun e w'=>e = .returned (.int .i64 (truthI (decide (k = 0)))) ∧ w' = W):=Lib.hid fun W=>by
    have:((k:Int) == 0) = decide (k = 0):=by by_cases h:k = 0 <;> simp [h]
    rw [this];exact HTR.out _ W
   have i2:(0:Int) ≤ (k:Int):=by omega
   have i3:(k:Int) < (n:Int):=by omega
   have ewi:IntKind.i64.wrap ((k:Int) + 1) = (k:Int) + 1:=IntWalk.i64_in _ (by omega)
   go_wp2_with fail
   (with_reducible refine (HTD.out _).mono ?_)
   rintro e w5 ⟨rfl,rfl⟩
   go_wp2_with fail
   go_roundw
   case rel=>exact ⟨k + 1,by go_num,by omega,HNX⟩
   case measure=>simp [intOf];omega
  ·have hk2:n = k:=by omega
   subst hk2
   have HM2:Hid (w.heap.size ≤ P ∧ Below w.heap.size w wr ∧ wr.heap[w.heap.size]? = some (.cells #[.slice pa q pc] 25 (0,0)) ∧ TsAt wr (some ⟨P,0,none⟩) n (pathT (exprT hs f) hs ss 0)):=Lib.hid ⟨HM.out.lo,HM.out.old,HM.out.box,by have:=HM.out.ts;rw [mixR_all] at this;rw [HP0.out];exact this⟩
   have x2:wr.cell? ⟨w.heap.size,0,none⟩ = some (.slice pa q pc):=by rw [cell_heap HM.out.box];rfl
   clear HM hk hkn HMI
   go_wp2_with fail
   go_loopw [5,35] (fun ov iv wr=>∃ j Q:Nat,ov = .slice (some ⟨Q,0,none⟩) n n ∧ iv = .int .i64 (j:Int) ∧ j ≤ q ∧ Hid (w.heap.size ≤ Q ∧ Below w.heap.size w wr ∧ wr.heap[w.heap.size]? = some (.cells #[.slice pa q pc] 25 (0,0)) ∧ TsAt wr (some ⟨Q,0,none⟩) n (pathT (exprT hs f) hs ss j))) (fun _ iv _=>q - (intOf iv).toNat)
   case atStart=>exact ⟨0,P,rfl,rfl,Nat.zero_le _,HM2⟩
   case round =>
    obtain ⟨j,Q,rfl,rfl,hjq,HJ⟩:=hrel
    obtain ⟨W0,rfl⟩:∃ W0,W0 = wr:=⟨_,rfl⟩
    by_cases hj0:j < q
    ·have hiq:j < ss.length:=by rw [HQ.out];exact hj0
     obtain ⟨b,o,wa,wn,rfl,hbl,hst,hcs⟩:=HSS.out.get' j hiq
     obtain ⟨s0,s1,s2,s3⟩:=hcs W0 HJ.out.2.1
     have HPJ:=Lib.hid (HPS.out j hiq)
     obtain ⟨a',c',hcc,hwl,_,_,_,hwn,hxs⟩:=hst
     cases hcc
     obtain ⟨led,hled⟩:∃ led,pathT (exprT hs f) hs ss j = led:=⟨_,rfl⟩
     rw [hled] at HPJ
     have HTL:Hid (TsAt W0 (some ⟨Q,0,none⟩) n led):=Lib.hid (by rw [← hled];exact HJ.out.2.2.2)
     have HMT:Hid (∀ a l W,Below W0.heap.size W0 W → TsAt W a n l → Calls Tryz.prog 50 #[.pointer (some ⟨hb,0,none⟩),.agg #[.int .i64 ss[j].axis,.int .i64 ss[j].test,.string (strL ss[j].name),.slice wa ss[j].wher.length wn],.slice a n n] W fun e w'=>∃ P,e = .returned (.slice (some ⟨P,0,none⟩) n n) ∧ W.heap.size ≤ P ∧ TsAt w' (some ⟨P,0,none⟩) n (metT (exprT hs f) hs ss[j] l) ∧ Below W.heap.size W w'):=Lib.hid fun a l W hW hT=>by
      have hb:=HJ.out.2.1.trans (hW.mono HJ.out.2.1.size)
      exact HME.out j hiq wa wn a l W hb (XsAt.below hxs hb) hwn hT
     have hs1:=HJ.out.2.1.size
     have x2:W0.cell? ⟨w.heap.size,0,none⟩ = some (.slice (some ⟨b,o,none⟩) q pc):=by rw [cell_heap HJ.out.2.2.1];rfl
     clear hcs hxs hled HPS
     generalize ss[j] = s at *
     have HMK2:Hid (∀ w2,w2.ownsRow (W0.alloc (.cells #[.int .i64 s.axis,.int .i64 s.test,.string (strL s.name),.slice wa s.wher.length wn] 76)).heap.size 48 1 (.slice (some ⟨(W0.alloc (.cells #[.int .i64 s.axis,.int .i64 s.test,.string (strL s.name),.slice wa s.wher.length wn] 76)).heap.size,0,none⟩) n n) n (madeCells (Value.int .i64 0).cells (n * 1)).toList → (W0.alloc (.cells #[.int .i64 s.axis,.int .i64 s.test,.string (strL s.name),.slice wa s.wher.length wn] 76)).grownBy w2 none → MI W0 W0.heap.size (.cells #[.int .i64 s.axis,.int .i64 s.test,.string (strL s.name),.slice wa s.wher.length wn] 76) (W0.heap.size + 1) n (List.replicate n 0) w2 ∧ TsAt w2 (some ⟨Q,0,none⟩) n led ∧ Q < W0.heap.size + 1 ∧ W0.heap.size + 1 < w2.heap.size):=Lib.hid fun w2 hown hgr=>by
      have hbo:=(Below.refl W0.heap.size W0).alloc (Nat.le_refl _) (.cells #[.int .i64 s.axis,.int .i64 s.test,.string (strL s.name),.slice wa s.wher.length wn] 76)
      obtain ⟨h1,h2⟩:=MI.made (w:=W0) (k:=W0.heap.size) (o:=(.cells #[.int .i64 s.axis,.int .i64 s.test,.string (strL s.name),.slice wa s.wher.length wn] 76)) hbo (heap_alloc_new W0 _) hown hgr
      have h3:=(HTL.out.below hbo).below h2
      have h4:=(HTL.out.at0 0 (by omega)).2
      rw [World.size_alloc] at h1
      exact ⟨h1,h3,by omega,(h1.own.lt _ rfl).2⟩
     have HMK3:Hid (∀ w2 w3,(MI W0 W0.heap.size (.cells #[.int .i64 s.axis,.int .i64 s.test,.string (strL s.name),.slice wa s.wher.length wn] 76) (W0.heap.size + 1) n (List.replicate n 0) w2 ∧ TsAt w2 (some ⟨Q,0,none⟩) n led ∧ Q < W0.heap.size + 1 ∧ W0.heap.size + 1 < w2.heap.size) → w3.ownsRow w2.heap.size 48 1 (.slice (some ⟨w2.heap.size,0,none⟩) n n) n (madeCells (Value.int .i64 0).cells (n * 1)).toList → w2.grownBy w3 none → MB W0 W0.heap.size (.cells #[.int .i64 s.axis,.int .i64 s.test,.string (strL s.name),.slice wa s.wher.length wn] 76) Q (W0.heap.size + 1) w2.heap.size n led (List.replicate n 0) (List.replicate n 0) w3 ∧ w3.cell? ⟨hb,1,none⟩ = some (.slice na n nc)):=Lib.hid fun w2 w3 ⟨g1,g2,g3,g4⟩ hown hgr=>by
      obtain ⟨h1,h2⟩:=MI.made g1.old g1.box hown hgr
      exact ⟨⟨g2.below h2,g1.below h2,h1,by omega,by omega,by omega⟩,HCN.out _ (HJ.out.2.1.trans (h1.old.mono HJ.out.2.1.size))⟩
     have i2:(0:Int) ≤ (j:Int):=by omega
     have i3:(j:Int) < (q:Int):=by omega
     have ewi:IntKind.i64.wrap ((j:Int) + 1) = (j:Int) + 1:=IntWalk.i64_in _ (by omega)
     go_wp2_with (at_make;go_must (first | ((refine wpList_make_full (W0.alloc (.cells #[.int .i64 s.axis,.int .i64 s.test,.string (strL s.name),.slice wa s.wher.length wn] 76)) (by rfl) _ _ 81 (by rfl) (W0.alloc (.cells #[.int .i64 s.axis,.int .i64 s.test,.string (strL s.name),.slice wa s.wher.length wn] 76)).heap.size 48 i0 _ 1 Tryz.underlying81 hi hz0 hz1 .i64 .i64 (n:Int) (n:Int) n (by rfl) (by rfl) rfl rfl (by rw [hz2];omega) (by unfold maxLen;omega) (Nat.le_refl _) (fun w2 hown2 hgr2=>?_));have HM2:=Lib.hid (HMK2.out w2 hown2 hgr2)) | ((refine wpList_make_full w2 (by rfl) _ _ 81 (by rfl) w2.heap.size 48 i0 _ 1 Tryz.underlying81 hi hz0 hz1 .i64 .i64 (n:Int) (n:Int) n (by rfl) (by rfl) rfl rfl (by rw [hz2];omega) (by unfold maxLen;omega) (Nat.le_refl _) (fun w3 hown3 hgr3=>?_));have HM3:=Lib.hid (HMK3.out w2 w3 HM2.out hown3 hgr3);have c3:=HM3.out.2)))
     have HMB:=Lib.hid HM3.out.1
     clear hown2 hgr2 hown3 hgr3 HM2 HM3 HMK2 HMK3 c3
     generalize W0.heap.size + 1 = P1 at *
     generalize w2.heap.size = P2 at *
     have HPD:Hid (∀ k,k < n → frT hs led s.axis k = if s.axis = 0 then parV hs led k else if s.axis = 1 then (abvAll hs led (k + 1)).getD k 0 else if s.axis = 2 then orL [(abvAll hs led (k + 1)).getD k 0,led.getD k 0] else led.getD k 0):=Lib.hid fun k _=>rfl
     go_loopw [50] (fun iv wr=>∃ k:Nat,iv = .int .i64 k ∧ k ≤ n ∧ Hid (MB W0 W0.heap.size (.cells #[.int .i64 s.axis,.int .i64 s.test,.string (strL s.name),.slice wa s.wher.length wn] 76) Q P1 P2 n led (mixR n k (frT hs led s.axis) (fun _=>0)) (abvAll hs led k) wr)) (fun iv _=>n - (intOf iv).toNat)
     case atStart=>exact ⟨0,rfl,Nat.zero_le _,Lib.hid (by rw [← rep_mix,abvAll_zero,HN.out];exact HMB.out)⟩
     case round =>
      obtain ⟨k,rfl,hk,HM⟩:=hrel
      by_cases hkn:k < n
      ·have hkl:k < hs.length:=by rw [HN.out];exact hkn
       obtain ⟨nb,no,A,m,c',rfl,hnbl,hm,hA,hat,htx,hcells⟩:=HROW.out k hkl
       obtain ⟨e0,e1,e2,e3,e4,e5,e6,e7,e8,e9,e10,e11,e12,e13⟩:=hcells wr (HJ.out.2.1.trans (HM.out.one.old.mono hs1))
       have z2:=HM.out.two.at k hkn
       have f2:=HM.out.two.frozen k
       have l2:=(HM.out.two.own.lt P2 rfl).2
       have n02:=HM.out.n02
       have n20:¬ P2 = Q:=fun e=>n02 e.symm
       have i7:(0:Int) ≤ (k:Int):=by omega
       have i8:(k:Int) < (n:Int):=by omega
       have ewk:IntKind.i64.wrap ((k:Int) + 1) = (k:Int) + 1:=IntWalk.i64_in _ (by omega)
       have HPV:Hid ((¬ 0 ≤ hs[k].par ∧ parV hs led k = 0 ∧ abvAll hs led (k + 1) = (abvAll hs led k).set k 0) ∨ ∃ p:Nat,hs[k].par = (p:Int) ∧ p < k ∧ parV hs led k = led.getD p 0 ∧ abvAll hs led (k + 1) = (abvAll hs led k).set k (orL [(abvAll hs led k).getD p 0,led.getD p 0])):=Lib.hid (by
        by_cases hp:0 ≤ hs[k].par
        ·have hk1:1 ≤ k:=by
          rcases Nat.eq_zero_or_pos k with h0 | h0
          ·subst h0
           have:=HROOT.out _ (List.getElem?_eq_getElem hkl)
           omega
          ·exact h0
         have h1:=HPAR.out k _ (List.getElem?_eq_getElem hkl) hk1
         refine .inr ⟨hs[k].par.toNat,by omega,by omega,parV_at hs led k hkl (by omega),?_⟩
         rw [abvAll_succ,abvV_at hs led _ k hkl (p:=hs[k].par.toNat) (by omega)]
        ·exact .inl ⟨hp,parV_no hs led k hkl hp,by rw [abvAll_succ,abvV_no hs led _ k hkl hp]⟩)
       clear hcells hA hat hm htx hnbl
       generalize hs[k]'hkl = hn' at *
       generalize (abvAll hs led k).getD k 0 = zz at z2
       go_upto_if 60 with fail
       go_cut [13] from 53 to 116 (fun s13 wx=>s13 = .int .i64 (parV hs led k) ∧ Hid (MB W0 W0.heap.size (.cells #[.int .i64 s.axis,.int .i64 s.test,.string (strL s.name),.slice wa s.wher.length wn] 76) Q P1 P2 n led (mixR n k (frT hs led s.axis) (fun _=>0)) (abvAll hs led (k + 1)) wx))
       case first =>
        rcases HPV.out with ⟨hp,hpv,hab⟩ | ⟨p,hp,hpk,hpv,hab⟩
        ·have HNX:Hid (MB W0 W0.heap.size (.cells #[.int .i64 s.axis,.int .i64 s.test,.string (strL s.name),.slice wa s.wher.length wn] 76) Q P1 P2 n led (mixR n k (frT hs led s.axis) (fun _=>0)) (abvAll hs led (k + 1)) (wr.setCell ⟨P2,k,none⟩ (.int .i64 0))):=Lib.hid (by rw [hab];exact HM.out.set2 k 0)
         have HVV:Hid (parV hs led k = 0):=Lib.hid hpv
         have t9:hn'.par < 0:=by omega
         clear hab hpv hp
         go_wp2_with fail
         go_meet
         case rel=>exact ⟨by rw [HVV.out],Lib.hid (HNX.out.below ((Below.refl _ _).alloc (Nat.le_refl _) _))⟩
        ·obtain ⟨y1,l0⟩:=HM.out.ts.at0 p (by omega)
         have y2:=HM.out.two.at p (by omega)
         have HNX:Hid (MB W0 W0.heap.size (.cells #[.int .i64 s.axis,.int .i64 s.test,.string (strL s.name),.slice wa s.wher.length wn] 76) Q P1 P2 n led (mixR n k (frT hs led s.axis) (fun _=>0)) (abvAll hs led (k + 1)) ((wr.setCell ⟨P2,k,none⟩ (.int .i64 0)).setCell ⟨P2,k,none⟩ (.int .i64 (orL [(abvAll hs led k).getD p 0,led.getD p 0])))):=Lib.hid (by
          have:=(HM.out.set2 k 0).set2 k (orL [(abvAll hs led k).getD p 0,led.getD p 0])
          rw [List.set_set] at this
          rw [hab];exact this)
         have HVV:Hid (parV hs led k = led.getD p 0):=Lib.hid hpv
         have j1:¬ p = k:=by omega
         have j2:¬ k = p:=by omega
         have j3:(0:Int) ≤ (p:Int):=by omega
         have j4:(p:Int) < (n:Int):=by omega
         clear hab hpv
         generalize led.getD p 0 = v1 at *
         generalize (abvAll hs led k).getD p 0 = v2 at *
         rw [hp]
         go_wp2_with fail
         (with_reducible refine (HOR2.out v2 v1 _ _ ?_).mono ?_)
         ·exact alloc_atH _ _ (by simp)
         rintro e w6 ⟨rfl,rfl⟩
         go_wp2_with fail
         go_meet
         case rel=>exact ⟨by rw [HVV.out],Lib.hid (HNX.out.below (((Below.refl _ _).alloc (Nat.le_refl _) _).alloc (by simp) _))⟩
       case rest =>
        obtain ⟨rfl,HJ2⟩:=hcut
        have x0:wc.cell? ⟨W0.heap.size,0,none⟩ = some (.int .i64 s.axis):=by rw [cell_heap HJ2.out.one.box];rfl
        have g1:=HJ2.out.one.at k hkn
        have f1:=HJ2.out.one.frozen k
        have l1:=(HJ2.out.one.own.lt P1 rfl).2
        have HNY:Hid (∀ v,v = frT hs led s.axis k → MB W0 W0.heap.size (.cells #[.int .i64 s.axis,.int .i64 s.test,.string (strL s.name),.slice wa s.wher.length wn] 76) Q P1 P2 n led (mixR n (k + 1) (frT hs led s.axis) (fun _=>0)) (abvAll hs led (k + 1)) (wc.setCell ⟨P1,k,none⟩ (.int .i64 v))):=Lib.hid fun v hv=>by
         have:=HJ2.out.set1 k v
         rwa [mixR_set _ _ _ _ _ hv] at this
        have g2:=HJ2.out.two.at k hkn
        have g3:=(HJ2.out.ts.at0 k hkn).1
        have HPK:=Lib.hid (HPD.out k hkn)
        generalize frT hs led s.axis k = fv at *
        generalize (mixR n k (frT hs led s.axis) (fun _=>0)).getD k 0 = yy at g1
        generalize (abvAll hs led (k + 1)).getD k 0 = v2 at *
        generalize led.getD k 0 = v1 at *
        generalize parV hs led k = v3 at *
        clear e0 e1 e2 e3 e4 e5 e6 e7 e8 e9 e10 e11 e12 e13 z2 HPV HM
        by_cases a0:s.axis = 0
        ·have HF:Hid (v3 = fv):=Lib.hid (by have:=HPK.out;rw [if_pos a0] at this;exact this.symm)
         have t0:((s.axis:Int) == 0) = true:=by simpa using a0
         clear a0 HPK
         go_wp2_with fail
         go_roundw
         case rel=>exact ⟨k + 1,by go_num,by omega,Lib.hid (HNY.out v3 HF.out)⟩
         case measure=>simp [intOf];omega
        have t0:((s.axis:Int) == 0) = false:=by simpa using a0
        by_cases a1:s.axis = 1
        ·have HF:Hid (v2 = fv):=Lib.hid (by have:=HPK.out;rw [if_neg a0,if_pos a1] at this;exact this.symm)
         have t1:((s.axis:Int) == 1) = true:=by simpa using a1
         clear a0 a1 HPK
         go_wp2_with fail
         go_roundw
         case rel=>exact ⟨k + 1,by go_num,by omega,Lib.hid (HNY.out v2 HF.out)⟩
         case measure=>simp [intOf];omega
        have t1:((s.axis:Int) == 1) = false:=by simpa using a1
        by_cases a2:s.axis = 2
        ·have HF:Hid (orL [v2,v1] = fv):=Lib.hid (by have:=HPK.out;rw [if_neg a0,if_neg a1,if_pos a2] at this;exact this.symm)
         have t2:((s.axis:Int) == 2) = true:=by simpa using a2
         clear a0 a1 a2 HPK
         go_wp2_with fail
         go_region_with (first | (go_at_call 49;(with_reducible refine (HORD.out v2 v1 _ _ (heap_alloc_new _ _)).mono ?_);rintro e w6 ⟨rfl,rfl⟩))
         all_goals
          go_wp2_with fail
          go_roundw
          case rel=>exact ⟨k + 1,by go_num,by omega,Lib.hid ((HNY.out _ HF.out).below (((Below.refl _ _).alloc (Nat.le_refl _) _).drew))⟩
          case measure=>simp [intOf];omega
        have t2:((s.axis:Int) == 2) = false:=by simpa using a2
        have HF:Hid (v1 = fv):=Lib.hid (by have:=HPK.out;rw [if_neg a0,if_neg a1,if_neg a2] at this;exact this.symm)
        clear a0 a1 a2 HPK
        go_wp2_with fail
        go_roundw
        case rel=>exact ⟨k + 1,by go_num,by omega,Lib.hid (HNY.out v1 HF.out)⟩
        case measure=>simp [intOf];omega
      ·have hk2:n = k:=by omega
       subst hk2
       have HT2:Hid (TsAt wr (some ⟨P1,0,none⟩) n (rowOf n (frT hs led s.axis))):=Lib.hid (by have:=HM.out.one.ts;rwa [mixR_all] at this)
       have HM4:=Lib.hid (HMT.out _ _ wr HM.out.one.old HT2.out)
       have x0:wr.cell? ⟨W0.heap.size,0,none⟩ = some (.int .i64 s.axis):=by rw [cell_heap HM.out.one.box];rfl
       have x1:wr.cell? ⟨W0.heap.size,1,none⟩ = some (.int .i64 s.test):=by rw [cell_heap HM.out.one.box];rfl
       have x2:wr.cell? ⟨W0.heap.size,2,none⟩ = some (.string (strL s.name)):=by rw [cell_heap HM.out.one.box];rfl
       have x3:wr.cell? ⟨W0.heap.size,3,none⟩ = some (.slice wa s.wher.length wn):=by rw [cell_heap HM.out.one.box];rfl
       have HOB:Hid (Below w.heap.size w wr ∧ wr.heap[w.heap.size]? = some (.cells #[.slice (some ⟨b,o,none⟩) q pc] 25 (0,0)) ∧ w.heap.size < wr.heap.size):=Lib.hid (by
        have h1:=HJ.out.2.1.trans (HM.out.one.old.mono hs1)
        have h2:=(Array.getElem?_eq_some_iff.1 HJ.out.2.2.1).1
        exact ⟨h1,(HM.out.one.old.block _ h2).trans HJ.out.2.2.1,Nat.lt_of_lt_of_le h2 HM.out.one.old.size⟩)
       clear HM hk hkn
       go_wp2_with fail
       (with_reducible refine HM4.out.mono ?_)
       rintro e w6 ⟨P6,rfl,hP6,hT6,hb6⟩
       have HX6:Hid (w.heap.size ≤ P6 ∧ Below w.heap.size w w6 ∧ w6.heap[w.heap.size]? = some (.cells #[.slice (some ⟨b,o,none⟩) q pc] 25 (0,0)) ∧ TsAt w6 (some ⟨P6,0,none⟩) n (pathT (exprT hs f) hs ss (j + 1))):=Lib.hid ⟨by have:=HOB.out.2.2;omega,HOB.out.1.trans (hb6.mono HOB.out.1.size),(hb6.block _ HOB.out.2.2).trans HOB.out.2.1,by rw [HPJ.out];exact hT6⟩
       clear hP6 hT6 hb6 x0 x1 x2 x3
       go_wp2_with fail
       go_roundw
       case rel=>exact ⟨j + 1,P6,rfl,by go_num,by omega,HX6⟩
       case measure=>simp [intOf];omega
    ·have hjq2:j = q:=by omega
     have HF:Hid (w.heap.size ≤ Q ∧ Below w.heap.size w W0 ∧ TsAt W0 (some ⟨Q,0,none⟩) n R):=Lib.hid ⟨HJ.out.1,HJ.out.2.1,by have:=HJ.out.2.2.2;rw [hjq2,HRR.out] at this;exact this⟩
     clear HJ
     go_wp2_with fail
     go_ret
     exact ⟨Q,rfl,HF.out.1,HF.out.2.2,HF.out.2.1⟩
end Go.Proofs.YtgjokdngbocehaaGreatDoor
namespace Go.Proofs.YtgjokdngbocehaaGreatDoor
open Go.RowKit
theorem infoVd:(Tryz.prog.info? 72).map (fun i=>(i.zero,i.size,i.bytes)) = some (some (.agg #[.int .i64 0,.int .i64 0]),2,16):=by kernel_rfl
def vdC (l:List (Int × Int)):List Value:=l.flatMap fun v=>[.int .i64 v.1,.int .i64 v.2]
theorem vdC_snoc (l:List (Int × Int)) (v:Int × Int):vdC (l ++ [v]) = vdC l ++ [.int .i64 v.1,.int .i64 v.2]:=by
 unfold vdC;rw [List.flatMap_append];simp
theorem vdC_at (l:List (Int × Int)):∀ i,(h:i < l.length) → (vdC l)[i * 2]? = some (.int .i64 l[i].1) ∧ (vdC l)[i * 2 + 1]? = some (.int .i64 l[i].2):=by
 induction l with
 | nil=>intro i h;exact absurd h (Nat.not_lt_zero _)
 | cons v l ih =>
  intro i h
  have e:vdC (v :: l) = [Value.int .i64 v.1,.int .i64 v.2] ++ vdC l:=by unfold vdC;rw [List.flatMap_cons]
  cases i with
  | zero=>rw [e];exact ⟨rfl,rfl⟩
  | succ i =>
   obtain ⟨h1,h2⟩:=ih i (by simpa using h)
   rw [e,List.getElem?_append_right (by simp;omega),List.getElem?_append_right (by simp;omega)]
   rw [show (i + 1) * 2 - [Value.int .i64 v.1,.int .i64 v.2].length = i * 2 by simp;omega,show (i + 1) * 2 + 1 - [Value.int .i64 v.1,.int .i64 v.2].length = i * 2 + 1 by simp;omega]
   exact ⟨h1,h2⟩
def VdAt (w:World) (a:Option Addr) (n:Nat) (l:List (Int × Int)):Prop :=
 n = l.length ∧ ∀ i,(h:i < l.length) → ∃ b o,a = some ⟨b,o,none⟩ ∧ b < w.heap.size ∧ w.cell? ⟨b,o + i * 2,none⟩ = some (.int .i64 l[i].1) ∧ w.cell? ⟨b,o + i * 2 + 1,none⟩ = some (.int .i64 l[i].2)
theorem VdAt.below {w w':World} {a:Option Addr} {n:Nat} {l:List (Int × Int)} (h:VdAt w a n l) (hb:Below w.heap.size w w'):VdAt w' a n l :=
 ⟨h.1,fun i hi=>by
  obtain ⟨b,o,e,hlt,h1,h2⟩:=h.2 i hi
  exact ⟨b,o,e,Nat.lt_of_lt_of_le hlt hb.size,(hb.cell (p:=⟨b,o + i * 2,none⟩) hlt).trans h1,(hb.cell (p:=⟨b,o + i * 2 + 1,none⟩) hlt).trans h2⟩⟩
theorem VdAt.of {W:World} {B:Nat} {v:Value} {l:List (Int × Int)} (h:W.ownsRow B 72 2 v l.length (vdC l)):∃ a c,v = .slice a l.length c ∧ l.length ≤ c ∧ VdAt W a l.length l:=by
 obtain ⟨a,c,rfl,h1,h2,h3⟩:=own_slice h
 refine ⟨a,c,rfl,h1,rfl,fun i hi=>?_⟩
 cases a with
 | none=>have:=h2 rfl;omega
 | some ad =>
  obtain ⟨g,rfl,_⟩:=h3 ad rfl
  obtain ⟨g1,g2⟩:=vdC_at l i hi
  exact ⟨g,0,rfl,(h.lt g rfl).2,by rw [Nat.zero_add,h.cellAt _ (by omega)];exact g1,by rw [Nat.zero_add,h.cellAt _ (by omega)];exact g2⟩
def verdN (f:Nat) (evs:List Ev) (ss:List PS):List (Int × Int) × Int :=
 match begAll beg0 evs with
 | none=>([],6)
 | some st=>if checkN f ss ≠ 0 then ([],6) else (vdT (pathT (exprT (readN evs st) f) (readN evs st) ss ss.length) (readN evs st).length,0)
theorem checkN_goodP {f:Nat} {ss:List PS} (h:checkN f ss = 0):goodPB (goodXB f) ss = true:=checkN_goodH h
set_option maxRecDepth 100000 in
set_option maxHeartbeats 8000000 in
theorem verdH_any {f:Nat} (hf:f ≤ 1048576) (a:Option Addr) (n c:Nat) (evs:List Ev) (pa:Option Addr) (pc:Nat) (ss:List PS) (w:World) (hE:BegQ w a n evs) (hp:SsAt f w pa ss) (hpl:ss.length ≤ 1048576) :
  Calls Tryz.prog 10 #[.slice a n c,.agg #[.slice pa ss.length pc]] w fun e w'=>∃ A cc,e = .returned (.tuple #[.slice A (verdN f evs ss).1.length cc,.int .i64 (verdN f evs ss).2]) ∧ (verdN f evs ss).1.length ≤ cc ∧ VdAt w' A (verdN f evs ss).1.length (verdN f evs ss).1 ∧ Below w.heap.size w w':=by
 obtain ⟨i0,hi,hz0,hz1,hz2⟩:=info_parts infoVd
 obtain ⟨W0,hW0⟩:∃ W0,W0 = w.alloc (.cells #[.slice pa ss.length pc] 25):=⟨_,rfl⟩
 have hb0:Below w.heap.size w W0:=by rw [hW0];exact (Below.refl _ _).alloc (Nat.le_refl _) _
 have hk0:W0.heap[w.heap.size]? = some (.cells #[.slice pa ss.length pc] 25 (0,0)):=by rw [hW0];exact heap_alloc_new w _
 have hs0:W0.heap.size = w.heap.size + 1:=by rw [hW0];simp
 have HRD:=Lib.hid ((hE.below hb0).read (c:=c))
 have HB0:=Lib.hid hb0
 have HQ:=Lib.hid hE
 have HP:=Lib.hid hp
 have HK0:=Lib.hid (⟨hk0,hs0⟩:_ ∧ _)
 obtain ⟨R,hR⟩:∃ R,verdN f evs ss = R:=⟨_,rfl⟩
 rw [hR]
 have HRR:=Lib.hid hR
 have HW0:=Lib.hid hW0
 obtain ⟨q,hq⟩:∃ q,ss.length = q:=⟨_,rfl⟩
 have HQQ:=Lib.hid hq
 rw [hq] at HK0 HW0 hpl
 rw [hq]
 clear hR hb0 hk0 hs0 hE hp hW0 hq
 go_enter Tryz.func10,Tryz.ntmps10
 go_wp2_with fail
 rw [← HW0.out]
 (with_reducible refine HRD.out.mono ?_)
 rintro e w2 ⟨hcase,hb2⟩
 rcases hcase with ⟨st,hst,rfl,hat⟩ | ⟨hno,rfl⟩
 ·have HB2:=Lib.hid (HB0.out.trans (hb2.mono HB0.out.size))
  have HRV:Hid ((if checkN f ss ≠ 0 then ([],6) else (vdT (pathT (exprT (readN evs st) f) (readN evs st) ss q) (readN evs st).length,0)) = R):=Lib.hid (by have:=HRR.out;unfold verdN at this;rw [hst] at this;rw [← HQQ.out];exact this)
  have HBX:Hid (∀ W,Below w2.heap.size w2 W → W.heap[w.heap.size]? = some (.cells #[.slice pa q pc] 25 (0,0))):=Lib.hid fun W hW=>(hW.block w.heap.size (by have:=hb2.size;have:=HK0.out.2;omega)).trans ((hb2.block w.heap.size (by have:=HK0.out.2;omega)).trans HK0.out.1)
  have x0:w2.cell? ⟨w.heap.size,0,none⟩ = some (.slice pa q pc):=by rw [cell_heap (HBX.out w2 (Below.refl _ _))];rfl
  have HCH:Hid (Calls Tryz.prog 12 #[.agg #[.slice pa q pc]] w2 fun e w'=>e = .returned (.int .i64 (checkN f ss)) ∧ Below w2.heap.size w2 w'):=Lib.hid (by
   have:=check_any hf pa pc ss w2 (HQ.out.below HB2.out).env (SsAt.below HP.out HB2.out) (by rw [HQQ.out];exact hpl)
   rw [HQQ.out] at this;exact this)
  have HAT:Hid (∀ W,Below w2.heap.size w2 W → HAt W (W0.heap.size + 2) (readN evs st)):=Lib.hid fun W hW=>hat.below hW
  have HROOT:=Lib.hid fun h hh=>(HQ.out.root hst h hh).1
  obtain ⟨bb,hbb⟩:∃ bb,W0.heap.size + 2 = bb:=⟨_,rfl⟩
  rw [hbb] at HAT
  rw [hbb]
  clear hb2 hst hat hbb
  go_wp2_with fail
  (with_reducible refine HCH.out.mono ?_)
  rintro e w3 ⟨rfl,hb3⟩
  have HB3:=Lib.hid (HB2.out.trans (hb3.mono HB2.out.size))
  have x0:w3.cell? ⟨w.heap.size,0,none⟩ = some (.slice pa q pc):=by rw [cell_heap (HBX.out w3 hb3)];rfl
  have HAT3:=Lib.hid (HAT.out w3 hb3)
  clear hb3 HAT
  rcases checkN_two f ss with hc | hc
  ·have hg:=checkN_goodP hc
   rw [hc] at HRV
   rw [hc]
   have hcap:=HAT3.out.cap
   have HPA:Hid (Calls Tryz.prog 29 #[.pointer (some ⟨bb,0,none⟩),.agg #[.slice pa q pc]] w3 fun e w'=>∃ P,e = .returned (.slice (some ⟨P,0,none⟩) (readN evs st).length (readN evs st).length) ∧ w3.heap.size ≤ P ∧ TsAt w' (some ⟨P,0,none⟩) (readN evs st).length (pathT (exprT (readN evs st) f) (readN evs st) ss q) ∧ Below w3.heap.size w3 w'):=Lib.hid (by
    have:=path_any (half_all bb (readN evs st) f) ss pa pc w3 HAT3.out HROOT.out (SsAt.below HP.out HB3.out) (by rw [HQQ.out];exact hpl) hg
    rw [HQQ.out] at this;exact this)
   have HL3:Hid (∀ k,(pathT (exprT (readN evs st) f) (readN evs st) ss q).getD k 0 = (pathT (exprT (readN evs st) f) (readN evs st) ss q).getD k 0):=Lib.hid fun _=>rfl
   obtain ⟨n',hn'⟩:∃ n',(readN evs st).length = n':=⟨_,rfl⟩
   rw [hn'] at hcap HRV HPA
   generalize pathT (exprT (readN evs st) f) (readN evs st) ss q = L at *
   clear hn' hg HAT3 HL3
   have HR2:Hid ((vdT L n',0) = R):=Lib.hid (by have:=HRV.out;rw [if_neg (by decide)] at this;exact this)
   clear HRV
   go_wp2_with fail
   (with_reducible refine HPA.out.mono ?_)
   rintro e w4 ⟨P,rfl,hP,hT,hb4⟩
   have HB4:=Lib.hid (HB3.out.trans (hb4.mono HB3.out.size))
   have HT:=Lib.hid hT
   clear hb4 hT hP
   go_wp2_with fail
   go_loopw [9,29] (fun ov iv wr=>∃ k:Nat,iv = .int .i64 k ∧ k ≤ n' ∧ Hid (Below w4.heap.size w4 wr ∧ wr.ownsRow w4.heap.size 72 2 ov (vdT L k).length (vdC (vdT L k)))) (fun _ iv _=>n' - (intOf iv).toNat)
   case atStart=>exact ⟨0,rfl,Nat.zero_le _,Lib.hid ⟨Below.refl _ _,World.ownsRow_nil _ _ _ _⟩⟩
   case round =>
    obtain ⟨k,rfl,hk,HM⟩:=hrel
    by_cases hkn:k < n'
    ·obtain ⟨z1,l1⟩:=(HT.out.below HM.out.1).at0 k hkn
     have i1:(0:Int) ≤ (k:Int):=by omega
     have i2:(k:Int) < (n':Int):=by omega
     have ewk:IntKind.i64.wrap ((k:Int) + 1) = (k:Int) + 1:=IntWalk.i64_in _ (by omega)
     have ewm:IntKind.i64.wrap ((k:Int) - 1) = (k:Int) - 1:=IntWalk.i64_in _ (by omega)
     by_cases hk0:0 < k
     ·by_cases hv0:L.getD k 0 = 0
      ·have HX:Hid (vdT L (k + 1) = vdT L k):=Lib.hid (vdT_no L k (fun h=>h.2 hv0))
       rw [hv0] at z1
       have i3:(0:Int) < (k:Int):=by omega
       go_wp2_with fail
       go_roundw
       case rel=>exact ⟨k + 1,by go_num,by omega,Lib.hid (by rw [HX.out];exact HM.out)⟩
       case measure=>simp [intOf];omega
      ·have HX:Hid (vdT L (k + 1) = vdT L k ++ [((k:Int) - 1,L.getD k 0)]):=Lib.hid (vdT_yes L k hk0 hv0)
       have hlen:=vdT_le L k
       have tv:((L.getD k 0:Int) == 0) = false:=by simpa using hv0
       have i3:(0:Int) < (k:Int):=by omega
       have HOWN:=Lib.hid HM.out.2
       have hbs:=HM.out.1.size
       generalize L.getD k 0 = tv' at *
       clear hv0
       go_wp2_with (at_builtin;go_must ((refine wpList_app wr (by rfl) _ _ 28 (by rfl) w4.heap.size 72 i0 (.agg #[.int .i64 0,.int .i64 0]) 2 16 Tryz.underlying28 hi hz0 hz1 hz2 (by rfl) (by decide) u9 (vdT L k).length _ (by rfl) HOWN.out _ rfl 1 [.int .i64 ((k:Int) - 1),.int .i64 tv'] (by rfl) (by rfl) (by intro u hu;simp only [List.mem_cons,List.not_mem_nil,or_false] at hu;rcases hu with rfl | rfl <;> rfl) (by omega) (by decide) hbs (fun vO' w7 hown7 hap7=>?_))))
       have HN7:Hid (Below w4.heap.size w4 w7 ∧ w7.ownsRow w4.heap.size 72 2 vO' (vdT L (k + 1)).length (vdC (vdT L (k + 1)))):=Lib.hid ⟨(HM.out.1.alloc hbs _).trans (hap7.below (by simp;omega) (fun q hq=>(HOWN.out.lt q hq).1)),by
        rw [HX.out,vdC_snoc,List.length_append];exact hown7⟩
       clear hown7 hap7
       go_wp2_with fail
       go_roundw
       case rel=>exact ⟨k + 1,by go_num,by omega,HN7⟩
       case measure=>simp [intOf];omega
     ·have hkz:k = 0:=by omega
      have HX:Hid (vdT L (k + 1) = vdT L k):=Lib.hid (vdT_no L k (fun h=>hk0 h.1))
      have i3:(k:Int) ≤ 0:=by omega
      clear hkz
      go_wp2_with fail
      go_roundw
      case rel=>exact ⟨k + 1,by go_num,by omega,Lib.hid (by rw [HX.out];exact HM.out)⟩
      case measure=>simp [intOf];omega
    ·have hk2:k = n':=by omega
     have HE:Hid (Below w.heap.size w wr ∧ wr.ownsRow w4.heap.size 72 2 u9 (vdT L n').length (vdC (vdT L n'))):=Lib.hid ⟨HB4.out.trans (HM.out.1.mono HB4.out.size),by rw [← hk2];exact HM.out.2⟩
     obtain ⟨A,cc,rfl,hcc,hvd⟩:=VdAt.of HE.out.2
     have HVD:=Lib.hid hvd
     have HE2:=Lib.hid HE.out.1
     clear HM hvd HE
     go_wp2_with fail
     go_ret2
     rw [← HR2.out]
     exact ⟨A,cc,rfl,hcc,HVD.out,HE2.out⟩
  ·have HR2:Hid (([],6) = R):=Lib.hid (by have:=HRV.out;rw [hc,if_pos (by decide)] at this;exact this)
   rw [hc]
   go_wp2_with fail
   go_ret2
   rw [← HR2.out]
   exact ⟨none,0,rfl,Nat.zero_le _,⟨rfl,fun i h=>absurd h (Nat.not_lt_zero _)⟩,HB3.out⟩
 ·have HB2:=Lib.hid (HB0.out.trans (hb2.mono HB0.out.size))
  have HR2:Hid (([],6) = R):=Lib.hid (by have:=HRR.out;unfold verdN at this;rw [hno] at this;exact this)
  clear hb2
  go_wp2_with fail
  go_ret2
  rw [← HR2.out]
  exact ⟨none,0,rfl,Nat.zero_le _,⟨rfl,fun i h=>absurd h (Nat.not_lt_zero _)⟩,HB2.out⟩
end Go.Proofs.YtgjokdngbocehaaGreatDoor
namespace Go.Proofs.YtgjokdngbocehaaGreatDoor
open Go.RowKit
def okV (hs:List HN) (v:Int × Int):Bool:=decide (v.2 = 2) && !((hs[(v.1 + 1).toNat]?.map fun (h:HN)=>h.op).getD false)
def itemV (evs:List Ev) (hs:List HN) (v:Int × Int):Int × List UInt8:=(v.1,(hs[(v.1 + 1).toNat]?.map fun (h:HN)=>((evs.take h.en).drop h.bg).flatMap evOut).getD [])
def toldL (evs:List Ev) (hs:List HN) (l:List (Int × Int)):List (Int × List UInt8):=(l.takeWhile (okV hs)).map (itemV evs hs)
theorem takeWhile_all {α:Type} (p:α → Bool):∀ l:List α,(∀ x ∈ l,p x = true) → l.takeWhile p = l
 | [],_=>rfl
 | x :: l,h=>by rw [List.takeWhile_cons_of_pos (h x List.mem_cons_self),takeWhile_all p l fun y hy=>h y (List.mem_cons_of_mem _ hy)]
theorem takeWhile_stop {α:Type} (p:α → Bool):∀ (l:List α) (k:Nat),(h:k < l.length) → (∀ i,(hi:i < k) → p (l[i]'(by omega)) = true) → p l[k] = false → l.takeWhile p = l.take k
 | [],_,h,_,_=>absurd h (Nat.not_lt_zero _)
 | x :: l,0,_,_,hp=>by
  rw [List.takeWhile_cons_of_neg (by simpa using hp)];rfl
 | x :: l,k + 1,h,ha,hp=>by
  have h0:p x = true:=ha 0 (by omega)
  rw [List.takeWhile_cons_of_pos h0,List.take_succ_cons,takeWhile_stop p l k (by simpa using h) (fun i hi=>ha (i + 1) (by omega)) hp]
def itC (l:List (Int × List UInt8)):List Value:=l.flatMap fun v=>[.int .i64 v.1,.string (strL v.2)]
theorem itC_snoc (l:List (Int × List UInt8)) (v:Int × List UInt8):itC (l ++ [v]) = itC l ++ [.int .i64 v.1,.string (strL v.2)]:=by
 unfold itC;rw [List.flatMap_append];simp
theorem itC_at (l:List (Int × List UInt8)):∀ i,(h:i < l.length) → (itC l)[i * 2]? = some (.int .i64 l[i].1) ∧ (itC l)[i * 2 + 1]? = some (.string (strL l[i].2)):=by
 induction l with
 | nil=>intro i h;exact absurd h (Nat.not_lt_zero _)
 | cons v l ih =>
  intro i h
  have e:itC (v :: l) = [Value.int .i64 v.1,.string (strL v.2)] ++ itC l:=by unfold itC;rw [List.flatMap_cons]
  cases i with
  | zero=>rw [e];exact ⟨rfl,rfl⟩
  | succ i =>
   obtain ⟨h1,h2⟩:=ih i (by simpa using h)
   rw [e,List.getElem?_append_right (by simp;omega),List.getElem?_append_right (by simp;omega)]
   rw [show (i + 1) * 2 - [Value.int .i64 v.1,.string (strL v.2)].length = i * 2 by simp;omega,show (i + 1) * 2 + 1 - [Value.int .i64 v.1,.string (strL v.2)].length = i * 2 + 1 by simp;omega]
   exact ⟨h1,h2⟩
def ItAt (w:World) (a:Option Addr) (n:Nat) (l:List (Int × List UInt8)):Prop :=
 n = l.length ∧ ∀ i,(h:i < l.length) → ∃ b o,a = some ⟨b,o,none⟩ ∧ b < w.heap.size ∧ w.cell? ⟨b,o + i * 2,none⟩ = some (.int .i64 l[i].1) ∧ w.cell? ⟨b,o + i * 2 + 1,none⟩ = some (.string (strL l[i].2))
theorem ItAt.below {w w':World} {a:Option Addr} {n:Nat} {l:List (Int × List UInt8)} (h:ItAt w a n l) (hb:Below w.heap.size w w'):ItAt w' a n l :=
 ⟨h.1,fun i hi=>by
  obtain ⟨b,o,e,hlt,h1,h2⟩:=h.2 i hi
  exact ⟨b,o,e,Nat.lt_of_lt_of_le hlt hb.size,(hb.cell (p:=⟨b,o + i * 2,none⟩) hlt).trans h1,(hb.cell (p:=⟨b,o + i * 2 + 1,none⟩) hlt).trans h2⟩⟩
theorem ItAt.of {W:World} {B:Nat} {E:TypeId} {v:Value} {l:List (Int × List UInt8)} (h:W.ownsRow B E 2 v l.length (itC l)):∃ a c,v = .slice a l.length c ∧ l.length ≤ c ∧ ItAt W a l.length l:=by
 obtain ⟨a,c,rfl,h1,h2,h3⟩:=own_slice h
 refine ⟨a,c,rfl,h1,rfl,fun i hi=>?_⟩
 cases a with
 | none=>have:=h2 rfl;omega
 | some ad =>
  obtain ⟨g,rfl,_⟩:=h3 ad rfl
  obtain ⟨g1,g2⟩:=itC_at l i hi
  exact ⟨g,0,rfl,(h.lt g rfl).2,by rw [Nat.zero_add,h.cellAt _ (by omega)];exact g1,by rw [Nat.zero_add,h.cellAt _ (by omega)];exact g2⟩
theorem ItAt.of2 {W:World} {B n:Nat} {E:TypeId} {v:Value} {l:List (Int × List UInt8)} (hn:l.length = n) (h:W.ownsRow B E 2 v n (itC l)):∃ a c,v = .slice a n c ∧ n ≤ c ∧ ItAt W a n l:=by
 subst hn;exact ItAt.of h
def toldN (f:Nat) (evs:List Ev) (ss:List PS):List (Int × List UInt8) × Int :=
 if (verdN f evs ss).2 ≠ 0 then ([],(verdN f evs ss).2) else match begAll beg0 evs with | none=>([],0) | some st=>(toldL evs (readN evs st) (verdN f evs ss).1,0)
end Go.Proofs.YtgjokdngbocehaaGreatDoor
namespace Go.Proofs.YtgjokdngbocehaaGreatDoor
open Go.RowKit
theorem outs_len (l:List Ev):(l.flatMap evOut).length ≤ 8 * wtEs l:=by
 induction l with
 | nil=>simp
 | cons e l ih =>
  have:=evOut_len e
  simp only [wtEs,List.flatMap_cons,List.length_append,List.map_cons,List.sum_cons] at *
  omega
theorem outs_take (l:List Ev) (k:Nat):((l.take k).flatMap evOut).length ≤ (l.flatMap evOut).length:=by
 have h:l.flatMap evOut = (l.take k).flatMap evOut ++ (l.drop k).flatMap evOut:=by rw [← List.flatMap_append,List.take_append_drop]
 rw [h,List.length_append]
 omega
set_option maxRecDepth 100000 in
set_option maxHeartbeats 4000000 in
theorem canonPrint_any (a:Option Addr) (n c:Nat) (evs:List Ev) (w:World) (hE:EvsAt w a n evs) (hw:wtEs evs ≤ 1048576) :
  Calls Tryz.prog 37 #[.slice a n c] w fun e w'=>e = .returned (.string (strL (evs.flatMap evOut))) ∧ Below w.heap.size w w':=by
 have HE:=Lib.hid hE
 have HN:Hid (n = evs.length):=Lib.hid hE.1
 have hol:=outs_len evs
 have HOL:Hid (∀ k,((evs.take k).flatMap evOut).length ≤ 8388608):=Lib.hid fun k=>by have:=outs_take evs k;omega
 have HW:Hid (∀ i (h:i < evs.length),wtE evs[i] ≤ 1048576):=Lib.hid fun i h=>Nat.le_trans (wtEs_mem evs i h) hw
 have HB0:Hid (Below w.heap.size w (w.alloc (.cells #[.pointer none,.slice none 0 0] 138)) ∧ IsB w.heap.size w.heap.size (u8s []) (w.alloc (.cells #[.pointer none,.slice none 0 0] 138))):=Lib.hid ⟨(Below.refl _ _).alloc (Nat.le_refl _) _,isB_new w w.heap.size (Nat.le_refl _)⟩
 have hn:n ≤ 1048576:=by have:=wtEs_length evs;have:=hE.1;omega
 clear hE hw hol
 go_enter Tryz.func37,Tryz.ntmps37
 go_wp2_with fail
 go_loopw [8] (fun iv wr=>∃ k:Nat,iv = .int .i64 k ∧ k ≤ n ∧ Below w.heap.size w wr ∧ Hid (IsB w.heap.size w.heap.size (u8s ((evs.take k).flatMap evOut)) wr)) (fun iv _=>n - (intOf iv).toNat)
 case atStart=>exact ⟨0,rfl,Nat.zero_le _,HB0.out.1,by simpa using Lib.hid HB0.out.2⟩
 case round =>
  obtain ⟨k,rfl,hk,hbr,hB⟩:=hrel
  by_cases hkn:k < n
  ·have hkl:k < evs.length:=by rw [← HN.out];exact hkn
   obtain ⟨b,o,A,m,c',rfl,hb,hmc,hA,hcells⟩:=HE.out.at8 k hkl
   obtain ⟨e0,e1,e2,e3,e4,e5,e6,e7⟩:=hcells wr hbr
   have hfl:=flat_drop evOut evs k hkl
   have hwt:=HW.out k hkl
   generalize evs[k] = e at *
   have HEV:Hid (∀ W,Below w.heap.size w W → Calls Tryz.prog 71 #[.agg #[.int .i64 e.kind,.int .i64 e.num,.int .i64 e.dep,.string (strL e.name),.slice A m c',.string (strL e.text),.int .i64 e.fr,.int .i64 e.tt]] W fun r w'=>r = .returned (.string (strL (evOut e))) ∧ Below W.heap.size W w'):=Lib.hid fun W hW =>
    Event_cells (cs:=(evC e.kind e.num e.dep e.name A m c' e.text e.fr e.tt).toList) ⟨A,m,c',rfl,hmc,hA.below hW⟩ hwt
   have HFL:=Lib.hid hfl
   have HBR:=Lib.hid hbr
   have hlen:=HOL.out k
   have hlen1:=HOL.out (k + 1)
   rw [hfl,List.length_append] at hlen1
   have HLEN:=Lib.hid hlen1
   have HB1:Hid (∀ o,Below w.heap.size w (wr.alloc o) ∧ IsB w.heap.size w.heap.size (u8s ((evs.take k).flatMap evOut)) (wr.alloc o)):=Lib.hid fun o=>⟨hbr.alloc hbr.size o,IsB_below hB.out ((Below.refl _ _).alloc (Nat.le_refl _) o)⟩
   clear hcells hA hbr hB hfl hwt hmc hb hlen hlen1
   go_wp2_with fail
   (with_reducible refine (HEV.out _ (HB1.out _).1).mono ?_)
   rintro r w2 ⟨rfl,hb2⟩
   have hbw2:=(HB1.out _).1.trans (hb2.mono (HB1.out _).1.size)
   have HWS:=Lib.hid (bwriteL_any w.heap.size w.heap.size ((evs.take k).flatMap evOut) (evOut e) w2 (IsB_below (HB1.out _).2 hb2) (by have:=HLEN.out;omega) hbw2.size)
   have HBW2:=Lib.hid hbw2
   clear hb2 hbw2 e0 e1 e2 e3 e4 e5 e6 e7
   go_wp2_with fail
   (with_reducible refine HWS.out.mono ?_)
   rintro r w3 ⟨rfl,hB3,hb3⟩
   have HB3:=Lib.hid hB3
   have hbw3:=HBW2.out.trans hb3
   clear hB3 hb3
   go_wp2_with fail
   go_roundw
   case rel=>exact ⟨k + 1,by go_num,by omega,hbw3,by rw [HFL.out];exact HB3⟩
   case measure=>simp [intOf];omega
  ·have hk2:k = n:=by omega
   subst hk2
   have htk:evs.take k = evs:=List.take_of_length_le (by rw [HN.out];exact Nat.le_refl _)
   rw [htk] at hB
   have HS:=Lib.hid (bstring_any w.heap.size w.heap.size (evs.flatMap evOut) wr hB.out hbr.size)
   have HBR:=Lib.hid hbr
   clear hB hbr
   go_wp2_with fail
   (with_reducible refine HS.out.mono ?_)
   rintro r w3 ⟨rfl,_,hb3⟩
   go_wp2_with fail
   go_ret
   exact ⟨rfl,HBR.out.trans hb3⟩
end Go.Proofs.YtgjokdngbocehaaGreatDoor
namespace Go.Proofs.YtgjokdngbocehaaGreatDoor
open Go.RowKit
theorem wtEs_sub (l:List Ev) (i j:Nat):wtEs ((l.take j).drop i) ≤ wtEs l:=by
 have h1:∀ (a b:List Ev),wtEs (a ++ b) = wtEs a + wtEs b:=fun a b=>by simp [wtEs]
 have h2:wtEs l = wtEs (l.take j) + wtEs (l.drop j):=by rw [← h1,List.take_append_drop]
 have h3:wtEs (l.take j) = wtEs ((l.take j).take i) + wtEs ((l.take j).drop i):=by rw [← h1,List.take_append_drop]
 omega
end Go.Proofs.YtgjokdngbocehaaGreatDoor
