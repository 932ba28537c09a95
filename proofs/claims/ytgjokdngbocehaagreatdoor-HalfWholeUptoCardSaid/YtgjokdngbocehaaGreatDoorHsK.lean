/-
  (*tree.Check).opens.
-/
import Derived.Test.YtgjokdngbocehaaGreatDoorHsA
import Derived.Test.YtgjokdngbocehaaGreatDoorHsC
import Derived.Test.YtgjokdngbocehaaGreatDoorHsD
import Derived.Test.YtgjokdngbocehaaGreatDoorHsE
import Derived.Test.YtgjokdngbocehaaGreatDoorHsG
import Derived.Test.YtgjokdngbocehaaGreatDoorHsJ
namespace Go.Proofs.YtgjokdngbocehaaGreatDoor
open Go.RowKit
theorem strL_toList (l:List UInt8):(strL l).toList = l:=strU_toList l
theorem strL_isE (l:List UInt8):(strL l).toList.isEmpty = l.isEmpty:=strU_empty l
set_option maxRecDepth 1000000 in
set_option maxHeartbeats 4000000 in
theorem opens_any (cb:Nat) (oa:Option Addr) (on oc:Nat) (nx:Int) (ek en ed efr ett:Int) (ename etext:List UInt8) (A:Option Addr) (m c:Nat) (ats:List (List UInt8 × List UInt8)) (w:World)
  (h0:w.cell? ⟨cb,0,none⟩ = some (.slice oa on oc)) (h1:w.cell? ⟨cb,1,none⟩ = some (.int .i64 nx)) (hcb:cb < w.heap.size) (hA:AttrsAt w A m ats) (hnl:ename.length ≤ 1048576) (hl:∀ p ∈ ats,p.1.length ≤ 1048576 ∧ p.2.length ≤ 1048576) (hm:m ≤ 1048576) (hon:on ≤ 1048576)
  (hR:RangesAt w 2) (hT:Lib.Utf8Tabs 0 1 w) :
  Calls Tryz.prog 77 #[.pointer (some ⟨cb,0,none⟩),.agg (evC ek en ed ename A m c etext efr ett)] w fun e w'=>e = .returned (.bool (decide (en = nx ∧ ed = (on:Int) + 1 ∧ etext = []) && nameB ename && attrsB none ats)) ∧ Below w.heap.size w w':=by
 have HNM:Hid (∀ (l:List UInt8) (W:World),l.length ≤ 1048576 → Below w.heap.size w W → Calls Tryz.prog 88 #[.string (strL l)] W fun e w'=>e = .returned (.bool (nameB l)) ∧ Below W.heap.size W w'):=Lib.hid fun l W h hW=>Name_any l W (by omega) (hR.below hW) (Utf8Tabs_below hT hW)
 have HTX:Hid (∀ (l:List UInt8) (W:World),l.length ≤ 1048576 → Below w.heap.size w W → Calls Tryz.prog 78 #[.string (strL l)] W fun e w'=>e = .returned (.bool (textsB l)) ∧ Below W.heap.size W w'):=Lib.hid fun l W h hW=>Texts_any l W (by omega) (hR.below hW) (Utf8Tabs_below hT hW)
 have HN:Hid (m = ats.length):=Lib.hid hA.1
 have HA:=Lib.hid hA.2
 have HL:=Lib.hid hl
 have hte:=strL_isE etext
 obtain ⟨T,hT2⟩:∃ T,(decide (en = nx ∧ ed = (on:Int) + 1 ∧ etext = []) && nameB ename && attrsB none ats) = T:=⟨_,rfl⟩
 rw [hT2]
 have HT2:=Lib.hid hT2
 clear hT2 hA hl hR hT
 unfold evC
 by_cases q1:en = nx
 ·by_cases q2:ed = (on:Int) + 1
  ·by_cases q3:etext = []
   ·have hse:etext.isEmpty = true:=by rw [q3];rfl
    rw [hse] at hte
    have HT3:Hid ((nameB ename && attrsB none ats) = T):=Lib.hid (by rw [← HT2.out,decide_eq_true ⟨q1,q2,q3⟩,Bool.true_and])
    subst q1 q2
    clear q3 hse HT2
    generalize strL etext = X at *
    have ew:IntKind.i64.wrap ((on:Int) + 1) = (on:Int) + 1:=IntWalk.i64_in _ (by omega)
    have hn1:=heap_alloc_new w (.cells #[.int .i64 ek,.int .i64 en,.int .i64 ((on:Int) + 1),.string (strL ename),.slice A m c,.string X,.int .i64 efr,.int .i64 ett] 47)
    have hbw:=(Below.refl w.heap.size w).alloc (Nat.le_refl _) (.cells #[.int .i64 ek,.int .i64 en,.int .i64 ((on:Int) + 1),.string (strL ename),.slice A m c,.string X,.int .i64 efr,.int .i64 ett] 47)
    have hs1:w.heap.size < (w.alloc (.cells #[.int .i64 ek,.int .i64 en,.int .i64 ((on:Int) + 1),.string (strL ename),.slice A m c,.string X,.int .i64 efr,.int .i64 ett] 47)).heap.size:=by simp
    have HN1:=Lib.hid hn1
    have HBW:=Lib.hid hbw
    have HS1:=Lib.hid hs1
    have HCB:=Lib.hid hcb
    have H0:=Lib.hid h0
    have H1:=Lib.hid h1
    clear hn1 hbw hs1 hcb h0 h1
    go_enter Tryz.func77,Tryz.ntmps77
    go_wp2_with fail
    obtain ⟨eb,heb⟩:∃ eb,eb = w.heap.size:=⟨_,rfl⟩
    rw [← heb] at HN1 HS1 ⊢
    generalize w.alloc (.cells #[.int .i64 ek,.int .i64 en,.int .i64 ((on:Int) + 1),.string (strL ename),.slice A m c,.string X,.int .i64 efr,.int .i64 ett] 47) = W1 at *
    have hS:∀ w',Below W1.heap.size W1 w' → w'.cell? ⟨cb,0,none⟩ = some (.slice oa on oc) ∧ w'.cell? ⟨cb,1,none⟩ = some (.int .i64 en) ∧ w'.cell? ⟨eb,1,none⟩ = some (.int .i64 en) ∧ w'.cell? ⟨eb,2,none⟩ = some (.int .i64 ((on:Int) + 1)) ∧ w'.cell? ⟨eb,3,none⟩ = some (.string (strL ename)) ∧ w'.cell? ⟨eb,4,none⟩ = some (.slice A m c) ∧ w'.cell? ⟨eb,5,none⟩ = some (.string X) ∧ Below W1.heap.size W1 w':=fun w' hb=>by
     have e:=(hb.block eb HS1.out).trans HN1.out
     have hb2:Below w.heap.size w w':=HBW.out.trans (hb.mono HBW.out.size)
     exact ⟨(hb2.cell (p:=⟨cb,0,none⟩) HCB.out).trans H0.out,(hb2.cell (p:=⟨cb,1,none⟩) HCB.out).trans H1.out,by rw [cell_heap e];rfl,by rw [cell_heap e];rfl,by rw [cell_heap e];rfl,by rw [cell_heap e];rfl,by rw [cell_heap e];rfl,hb⟩
    have HS:=Lib.hid hS
    have hS0:Below W1.heap.size W1 W1.drew:=(Below.refl _ _).drew
    have HNK:Hid (∀ w',Below W1.heap.size W1 w' → Calls Tryz.prog 88 #[.string (strL ename)] w' fun e w''=>e = .returned (.bool (nameB ename)) ∧ Below W1.heap.size W1 w''):=Lib.hid fun w' hb=>(HNM.out ename w' hnl (HBW.out.trans (hb.mono HBW.out.size))).mono fun e w'' h=>⟨h.1,hb.trans (h.2.mono hb.size)⟩
    clear hS H0 H1 HCB HN1 heb
    go_region_held3 (fun w'=>w'.cell? ⟨cb,0,none⟩ = some (.slice oa on oc) ∧ w'.cell? ⟨cb,1,none⟩ = some (.int .i64 en) ∧ w'.cell? ⟨eb,1,none⟩ = some (.int .i64 en) ∧ w'.cell? ⟨eb,2,none⟩ = some (.int .i64 ((on:Int) + 1)) ∧ w'.cell? ⟨eb,3,none⟩ = some (.string (strL ename)) ∧ w'.cell? ⟨eb,4,none⟩ = some (.slice A m c) ∧ w'.cell? ⟨eb,5,none⟩ = some (.string X) ∧ Below W1.heap.size W1 w') (first | exact HS.out _ ‹_› | go_keep) (first | (go_at_call 88;(with_reducible refine (HNK.out _ ‹_›).mono ?_);rintro e w3 ⟨rfl,hb3⟩))
    cases hnb:nameB ename with
    | false =>
     have HE:Hid (T = false):=Lib.hid (by rw [← HT3.out,hnb];rfl)
     clear hnb HT3
     go_wp2_with fail
     go_ret
     exact ⟨ret_bool (by rw [HE.out]),HBW.out.trans (hb3.mono HBW.out.size)⟩
    | true =>
     have HT4:Hid (attrsB none ats = T):=Lib.hid (by rw [← HT3.out,hnb,Bool.true_and])
     clear hnb HT3 HNK
     obtain ⟨_,_,_,_,_,x4,_,_⟩:=HS.out w3 hb3
     go_wp2_with fail
     clear x4
     go_loopw [39] (fun iv wr=>∃ k:Nat,iv = .int .i64 k ∧ k ≤ m ∧ Below W1.heap.size W1 wr ∧ Hid (attrsB (prevN ats k) (ats.drop k) = T)) (fun iv _=>m - (intOf iv).toNat)
     case atStart=>exact ⟨0,rfl,Nat.zero_le _,hb3,HT4⟩
     case round =>
      obtain ⟨k,rfl,hk,hbr,hr⟩:=hrel
      by_cases hkn:k < m
      ·have hkl:k < ats.length:=by rw [← HN.out];exact hkn
       obtain ⟨b,o,rfl,hb,c0,c1⟩:=HA.out k hkl
       have hbr2:Below w.heap.size w wr:=HBW.out.trans (hbr.mono HBW.out.size)
       have e0:=(hbr2.cell (p:=⟨b,o + k * 2,none⟩) hb).trans c0
       have e1:=(hbr2.cell (p:=⟨b,o + k * 2 + 1,none⟩) hb).trans c1
       have hd:=hr.out
       have hlk:=HL.out _ (List.getElem_mem hkl)
       rw [List.drop_eq_getElem_cons hkl,attrsB_cons] at hd
       have hpk:prevN ats (k + 1) = some (ats[k]).1:=by
        unfold prevN
        rw [if_neg (by omega),Nat.add_sub_cancel,List.getElem?_eq_getElem hkl]
        rfl
       have HPK:=Lib.hid hpk
       have HPV:Hid (k = 0 ∨ ∃ (j:Nat) (q:List UInt8),k = j + 1 ∧ prevN ats k = some q ∧ ∀ W,Below w.heap.size w W → W.cell? ⟨b,o + j * 2,none⟩ = some (.string (strL q))):=Lib.hid (by
        by_cases h0:k = 0
        ·exact .inl h0
        ·right
         have h:k - 1 < ats.length:=by omega
         refine ⟨k - 1,(ats[k - 1]).1,by omega,?_,fun W hW=>?_⟩
         ·unfold prevN
          rw [if_neg h0,List.getElem?_eq_getElem h]
          rfl
         ·obtain ⟨b',o',he,_,c0',_⟩:=HA.out (k - 1) h
          injection he with he
          injection he with he1 he2
          subst he1 he2
          exact (hW.cell (p:=⟨b,o + (k - 1) * 2,none⟩) hb).trans c0')
       generalize ats[k] = pp at *
       obtain ⟨nm,vl⟩:=pp
       simp only at hd hlk e0 e1 hpk HPK
       obtain ⟨hnl2,hvl2⟩:=hlk
       have HBR:=Lib.hid hbr
       have HBR2:=Lib.hid hbr2
       have hws:=hbr2.size
       have hws1:=hbr.size
       clear hpk c0 c1 hr hbr hbr2
       have hn2:=heap_alloc_new wr (.cells #[.string (strL nm),.string (strL vl)] 158)
       have hs2:wr.heap.size < (wr.alloc (.cells #[.string (strL nm),.string (strL vl)] 158)).heap.size:=by simp
       have hb2:Below W1.heap.size W1 (wr.alloc (.cells #[.string (strL nm),.string (strL vl)] 158)):=HBR.out.alloc hws1 _
       have HN2:=Lib.hid hn2
       have HS2':=Lib.hid hs2
       have HB2:=Lib.hid hb2
       clear hn2 hs2 hb2
       go_wp2_with fail
       clear e0 e1
       obtain ⟨ab,hab⟩:∃ ab,ab = wr.heap.size:=⟨_,rfl⟩
       rw [← hab] at HN2 HS2' ⊢
       generalize wr.alloc (.cells #[.string (strL nm),.string (strL vl)] 158) = W2 at *
       have hS2:∀ w',Below W2.heap.size W2 w' → w'.cell? ⟨ab,0,none⟩ = some (.string (strL nm)) ∧ w'.cell? ⟨ab,1,none⟩ = some (.string (strL vl)) ∧ w'.cell? ⟨eb,4,none⟩ = some (.slice (some ⟨b,o,none⟩) m c) ∧ Below W2.heap.size W2 w':=fun w' hb=>by
        have e:=(hb.block ab HS2'.out).trans HN2.out
        have hbb:Below W1.heap.size W1 w':=HB2.out.trans (hb.mono HB2.out.size)
        exact ⟨by rw [cell_heap e];rfl,by rw [cell_heap e];rfl,(HS.out w' hbb).2.2.2.2.2.1,hb⟩
       have HS2:=Lib.hid hS2
       have hS20:Below W2.heap.size W2 W2.drew:=(Below.refl _ _).drew
       have HW2:Hid (∀ w',Below W2.heap.size W2 w' → Below w.heap.size w w'):=Lib.hid fun w' hb=>HBW.out.trans ((HB2.out.trans (hb.mono HB2.out.size)).mono HBW.out.size)
       have HW1:Hid (∀ w',Below W2.heap.size W2 w' → Below W1.heap.size W1 w'):=Lib.hid fun w' hb=>HB2.out.trans (hb.mono HB2.out.size)
       have HNK2:Hid (∀ w',Below W2.heap.size W2 w' → Calls Tryz.prog 88 #[.string (strL nm)] w' fun e w''=>e = .returned (.bool (nameB nm)) ∧ Below W2.heap.size W2 w''):=Lib.hid fun w' hb=>(HNM.out nm w' hnl2 (HW2.out _ hb)).mono fun e w'' h=>⟨h.1,hb.trans (h.2.mono hb.size)⟩
       have HTK2:Hid (∀ w',Below W2.heap.size W2 w' → Calls Tryz.prog 78 #[.string (strL vl)] w' fun e w''=>e = .returned (.bool (textsB vl)) ∧ Below W2.heap.size W2 w''):=Lib.hid fun w' hb=>(HTX.out vl w' hvl2 (HW2.out _ hb)).mono fun e w'' h=>⟨h.1,hb.trans (h.2.mono hb.size)⟩
       clear hS2 HN2 hab hws hws1 hnl2 hvl2 HBR HBR2
       cases hn3:nameB nm with
       | false =>
        rw [hn3] at HNK2
        have HE:Hid (T = false):=Lib.hid (by rw [← hd,hn3];rfl)
        clear hd hn3 HPV HTK2
        refine opens6_name (Below W2.heap.size W2) eb ab k (strL nm) (strL vl) _ _ _ _ _ _ _ _ _ _ _ _ _ _ _ _ _ _ _ _ _ _ _ _ _ _ _ _ _ _ _ _ _ _ _ _ _ _ _ _ _ _ _ _ _ _ _ _ _ _ _ _ _ _ _ _ _ _ _ _ _ _ _ _ _ _ _ _ _ (Lib.hid fun w' hb=>⟨(HS2.out w' hb).1,(HS2.out w' hb).2.1,hb⟩) HNK2 hS20 _ (Lib.hid fun w5 hb5=>?_)
        go_wp2_with fail
        go_ret
        exact ⟨ret_bool (by rw [HE.out]),HW2.out _ (by assumption)⟩
       | true =>
        rw [hn3] at HNK2
        cases ht3:textsB vl with
        | false =>
         rw [ht3] at HTK2
         have HE:Hid (T = false):=Lib.hid (by rw [← hd,hn3,ht3];rfl)
         clear hd hn3 ht3 HPV
         refine opens6_texts (Below W2.heap.size W2) eb ab k (strL nm) (strL vl) _ _ _ _ _ _ _ _ _ _ _ _ _ _ _ _ _ _ _ _ _ _ _ _ _ _ _ _ _ _ _ _ _ _ _ _ _ _ _ _ _ _ _ _ _ _ _ _ _ _ _ _ _ _ _ _ _ _ _ _ _ _ _ _ _ _ _ _ _ (Lib.hid fun w' hb=>⟨(HS2.out w' hb).1,(HS2.out w' hb).2.1,hb⟩) HNK2 HTK2 hS20 _ (Lib.hid fun w5 hb5=>?_)
         go_wp2_with fail
         go_ret
         exact ⟨ret_bool (by rw [HE.out]),HW2.out _ (by assumption)⟩
        | true =>
         rw [ht3] at HTK2
         rw [hn3,ht3,Bool.true_and,Bool.true_and] at hd
         rcases HPV.out with hk0 | ⟨j,q,hj,hq,hcell⟩
         ·have HD2:Hid (attrsB (some nm) (ats.drop (k + 1)) = T):=Lib.hid (by
           rw [show prevN ats k = none by unfold prevN;rw [if_pos hk0]] at hd
           simpa using hd)
          subst hk0
          clear hd hn3 ht3 HPV
          rw [show ((0:Nat):Int) = 0 from rfl]
          refine opens6_zero (Below W2.heap.size W2) eb ab (strL nm) (strL vl) _ _ _ _ _ _ _ _ _ _ _ _ _ _ _ _ _ _ _ _ _ _ _ _ _ _ _ _ _ _ _ _ _ _ _ _ _ _ _ _ _ _ _ _ _ _ _ _ _ _ _ _ _ _ _ _ _ _ _ _ _ _ _ _ _ _ _ _ _ (Lib.hid fun w' hb=>⟨(HS2.out w' hb).1,(HS2.out w' hb).2.1,hb⟩) HNK2 HTK2 hS20 _ (Lib.hid fun w5 hb5=>?_)
          go_wp2_with fail
          go_roundw
          case rel=>exact ⟨0 + 1,by go_num,by omega,HW1.out _ (by assumption),by rw [HPK.out];exact HD2⟩
          case measure=>simp [intOf];omega
         ·have hjm:k < m:=hkn
          have HCJ:Hid (∀ w',Below W2.heap.size W2 w' → w'.cell? ⟨ab,0,none⟩ = some (.string (strL nm)) ∧ w'.cell? ⟨ab,1,none⟩ = some (.string (strL vl)) ∧ w'.cell? ⟨eb,4,none⟩ = some (.slice (some ⟨b,o,none⟩) m c) ∧ w'.cell? ⟨b,o + j * 2,none⟩ = some (.string (strL q)) ∧ Below W2.heap.size W2 w'):=Lib.hid fun w' hb=>⟨(HS2.out w' hb).1,(HS2.out w' hb).2.1,(HS2.out w' hb).2.2.1,hcell w' (HW2.out w' hb),hb⟩
          rw [hq] at hd
          simp only at hd
          cases hbl:Op.bytesLess q nm with
          | true =>
           have HD2:Hid (attrsB (some nm) (ats.drop (k + 1)) = T):=Lib.hid (by rw [hbl,Bool.true_and] at hd;exact hd)
           have hTB:(!(Op.bytesLess (strL q).toList (strL nm).toList)) = false:=by rw [strL_toList,strL_toList,hbl];rfl
           clear hd hn3 ht3 HPV hcell hbl
           refine opens6_next (Below W2.heap.size W2) eb ab b o m c k j hj hjm hm (strL nm) (strL vl) (strL q) false hTB _ _ _ _ _ _ _ _ _ _ _ _ _ _ _ _ _ _ _ _ _ _ _ _ _ _ _ _ _ _ _ _ _ _ _ _ _ _ _ _ _ _ _ _ _ _ _ _ _ _ _ _ _ _ _ _ _ _ _ _ _ _ _ _ _ _ _ _ _ HCJ HNK2 HTK2 hS20 _ (Lib.hid fun w5 hb5=>?_)
           go_wp2_with fail
           go_roundw
           case rel=>exact ⟨k + 1,by go_num,by omega,HW1.out _ (by assumption),by rw [HPK.out];exact HD2⟩
           case measure=>simp [intOf];omega
          | false =>
           have HE:Hid (T = false):=Lib.hid (by rw [← hd,hbl,Bool.false_and])
           have hTB:(!(Op.bytesLess (strL q).toList (strL nm).toList)) = true:=by rw [strL_toList,strL_toList,hbl];rfl
           clear hd hn3 ht3 HPV hcell hbl
           refine opens6_next (Below W2.heap.size W2) eb ab b o m c k j hj hjm hm (strL nm) (strL vl) (strL q) true hTB _ _ _ _ _ _ _ _ _ _ _ _ _ _ _ _ _ _ _ _ _ _ _ _ _ _ _ _ _ _ _ _ _ _ _ _ _ _ _ _ _ _ _ _ _ _ _ _ _ _ _ _ _ _ _ _ _ _ _ _ _ _ _ _ _ _ _ _ _ HCJ HNK2 HTK2 hS20 _ (Lib.hid fun w5 hb5=>?_)
           go_wp2_with fail
           go_ret
           exact ⟨ret_bool (by rw [HE.out]),HW2.out _ (by assumption)⟩
      ·have hd:=hr.out
       have HE:Hid (T = true):=Lib.hid (by rw [← hd,List.drop_of_length_le (by rw [← HN.out];omega)];rfl)
       have hkn2:m ≤ k:=by omega
       have hfin:Below w.heap.size w wr:=HBW.out.trans (hbr.mono HBW.out.size)
       clear hd hr hkn
       go_wp2_with fail
       go_ret
       exact ⟨ret_bool (by rw [HE.out]),hfin⟩
   ·have HE:Hid (T = false):=Lib.hid (by rw [← HT2.out,decide_eq_false (by simp [q3])];rfl)
    have hse:etext.isEmpty = false:=by cases etext with | nil=>exact absurd rfl q3 | cons _ _=>rfl
    rw [hse] at hte
    subst q1 q2
    clear q3 hse HT2
    generalize strL etext = X at *
    have ew:IntKind.i64.wrap ((on:Int) + 1) = (on:Int) + 1:=IntWalk.i64_in _ (by omega)
    go_enter Tryz.func77,Tryz.ntmps77
    go_wp2_with fail
    go_quiet (fail)
    go_wp2_with fail
    go_ret
    exact ⟨ret_bool (by rw [HE.out]),Below.drewN ((Below.refl w.heap.size w).alloc (Nat.le_refl _) _) _⟩
  ·have HE:Hid (T = false):=Lib.hid (by rw [← HT2.out,decide_eq_false (by simp [q2])];rfl)
   have ew:IntKind.i64.wrap ((on:Int) + 1) = (on:Int) + 1:=IntWalk.i64_in _ (by omega)
   have t2:(ed != (on:Int) + 1) = true:=by simpa using q2
   subst q1
   clear q2 HT2
   go_enter Tryz.func77,Tryz.ntmps77
   go_wp2_with fail
   go_quiet (fail)
   go_wp2_with fail
   go_ret
   exact ⟨ret_bool (by rw [HE.out]),Below.drewN ((Below.refl w.heap.size w).alloc (Nat.le_refl _) _) _⟩
 ·have HE:Hid (T = false):=Lib.hid (by rw [← HT2.out,decide_eq_false (by simp [q1])];rfl)
  have t1:(en != nx) = true:=by simpa using q1
  clear q1 HT2
  go_enter Tryz.func77,Tryz.ntmps77
  go_wp2_with fail
  go_quiet (fail)
  go_wp2_with fail
  go_ret
  exact ⟨ret_bool (by rw [HE.out]),Below.drewN ((Below.refl w.heap.size w).alloc (Nat.le_refl _) _) _⟩
end Go.Proofs.YtgjokdngbocehaaGreatDoor
namespace Go.Proofs.YtgjokdngbocehaaGreatDoor
open Go.RowKit
noncomputable def take15:Code:=((Tryz.f43.body.bind (regNo6 15)).getD .skip)
def ldOp:Op:=Op.load 22 (Operand.tmp 118)
theorem ldOp_eq:ldOp = Op.load 22 (Operand.tmp 118):=rfl
set_option maxRecDepth 1000000 in
set_option maxHeartbeats 4000000 in
theorem take15_any (R cb eb on:Nat) (nx dd:Int) (b2 b3:Bool) (oa:Option Addr) (oc:Nat) (ename:List UInt8) (opn:List (Int × Int × List UInt8)) (q0 q4 q5 q6 q7:Value) (u1 u2 u4 u5 u6 u7 u8 u9 u10 u11 u12 u13 u14 u15 u16 u17 u18 u19 u20 u21 u22 u23 u24 u25 u26 u27 u28 u29 u30 u31 u32 u33 u34 u35 u36 u37 u38 u39 u40 u41 u42 u43 u44 u45 u46 u47 u48 u49 u50 u51 u52 u53 u54 u55 u56 u57 u58 u59 u60 u61 u62 u63 u64 u65 u66 u67 u68 u69 u70 u71 u72 u73 u74 u75 u76 u77 u78 u79 u80 u81 u82 u83 u84 u85 u86 u87 u88 u89 u90 u91 u92 u93 u94 u95 u96 u97 u98 u99 u100 u101 u102 u103 u104 u105 u106 u107 u108 u109 u110 u111 u112 u113 u114 u115 u116 u117 u118 u119 u120 u121 u122 u123 u124 u125 u126 u127 u128 u129 u130 u131 u132 u133 u134 u135 u136 u137 u138 u139 u140 u141 u142 u143 u144 u145 u146 u147 u148 u149 u150 u151 u152 u153 u154 u155 u156 u157 u158 u159 u160 u161 u162 u163 u164 u165 u166 u167 u168 u169 u170 u171:Value) (W3:World)
  (h0:W3.heap[cb]? = some (.cells #[.slice oa on oc,.int .i64 nx,.bool b2,.bool b3] 105 (0,0))) (h1:W3.heap[eb]? = some (.cells #[q0,.int .i64 nx,.int .i64 dd,.string (strL ename),q4,q5,q6,q7] 47 (0,0)))
  (h2:W3.ownsRow R 47 8 (.slice oa on oc) on (ckC opn)) (hR:R ≤ W3.heap.size) (hcb:cb < R) (hne:cb ≠ eb) (hebo:(Value.slice oa on oc).ownBlock ≠ some eb) (hon:on ≤ 1048576)
  (Q:Exit → Act → World → Prop) (hQ:Hid (∀ (y115 y116 y117 y118 y119 y120 y121 y122 y123 y124 y125 y126 y127 y128 y129 y130:Value) (oa6:Option Addr) (oc6:Nat) (w6:World),w6.ownsRow R 47 8 (.slice oa6 (on + 1) oc6) (on + 1) (ckC opn ++ ckRow (nx,dd,ename)) → Moved cb (.slice oa on oc) (.slice oa6 (on + 1) oc6) W3 w6 →
   w6.heap[cb]? = some (.cells #[.slice oa6 (on + 1) oc6,.int .i64 nx,.bool b2,.bool b3] 105 (0,0)) → Q .normal ⟨#[.pointer (some ⟨cb,0,none⟩),u1,u2,.pointer (some ⟨eb,0,none⟩),u4,u5,u6,u7,u8,u9,u10,u11,u12,u13,u14,u15,u16,u17,u18,u19,u20,u21,u22,u23,u24,u25,u26,u27,u28,u29,u30,u31,u32,u33,u34,u35,u36,u37,u38,u39,u40,u41,u42,u43,u44,u45,u46,u47,u48,u49,u50,u51,u52,u53,u54,u55,u56,u57,u58,u59,u60,u61,u62,u63,u64,u65,u66,u67,u68,u69,u70,u71,u72,u73,u74,u75,u76,u77,u78,u79,u80,u81,u82,u83,u84,u85,u86,u87,u88,u89,u90,u91,u92,u93,u94,u95,u96,u97,u98,u99,u100,u101,u102,u103,u104,u105,u106,u107,u108,u109,u110,u111,u112,u113,u114,y115,y116,y117,y118,y119,y120,y121,y122,y123,y124,y125,y126,y127,y128,y129,y130,u131,u132,u133,u134,u135,u136,u137,u138,u139,u140,u141,u142,u143,u144,u145,u146,u147,u148,u149,u150,u151,u152,u153,u154,u155,u156,u157,u158,u159,u160,u161,u162,u163,u164,u165,u166,u167,u168,u169,u170,u171],[]⟩ w6)) :
  Code.wp Tryz.prog take15 Q ⟨#[.pointer (some ⟨cb,0,none⟩),u1,u2,.pointer (some ⟨eb,0,none⟩),u4,u5,u6,u7,u8,u9,u10,u11,u12,u13,u14,u15,u16,u17,u18,u19,u20,u21,u22,u23,u24,u25,u26,u27,u28,u29,u30,u31,u32,u33,u34,u35,u36,u37,u38,u39,u40,u41,u42,u43,u44,u45,u46,u47,u48,u49,u50,u51,u52,u53,u54,u55,u56,u57,u58,u59,u60,u61,u62,u63,u64,u65,u66,u67,u68,u69,u70,u71,u72,u73,u74,u75,u76,u77,u78,u79,u80,u81,u82,u83,u84,u85,u86,u87,u88,u89,u90,u91,u92,u93,u94,u95,u96,u97,u98,u99,u100,u101,u102,u103,u104,u105,u106,u107,u108,u109,u110,u111,u112,u113,u114,u115,u116,u117,u118,u119,u120,u121,u122,u123,u124,u125,u126,u127,u128,u129,u130,u131,u132,u133,u134,u135,u136,u137,u138,u139,u140,u141,u142,u143,u144,u145,u146,u147,u148,u149,u150,u151,u152,u153,u154,u155,u156,u157,u158,u159,u160,u161,u162,u163,u164,u165,u166,u167,u168,u169,u170,u171],[]⟩ W3:=by
 obtain ⟨i0,hi,hz0,hz1,hz2⟩:=info_parts infoEv
 have hcbo:(Value.slice oa on oc).ownBlock ≠ some cb:=fun e=>by have:=(h2.lt _ e).1;omega
 have hlt3:cb < W3.heap.size:=heap_lt h0
 have HOWA:Hid (∀ o,(W3.drew.alloc o).ownsRow R 47 8 (.slice oa on oc) on (ckC opn)):=Lib.hid fun o=>h2.drew.alloc o
 have HNEW:Hid (∀ o,(W3.drew.alloc o).heap[W3.heap.size]? = some o):=Lib.hid fun o=>heap_alloc_new W3.drew o
 have HLE3:Hid (∀ o,R ≤ (W3.drew.alloc o).heap.size):=Lib.hid fun o=>by simp;omega
 have HCBA:Hid (∀ o,(W3.drew.alloc o).heap[cb]? = some (.cells #[.slice oa on oc,.int .i64 nx,.bool b2,.bool b3] 105 (0,0)) ∧ cb < (W3.drew.alloc o).heap.size):=Lib.hid fun o=>⟨(Below.heap_alloc W3.drew o cb hlt3).trans h0,by simp;omega⟩
 have HEBA:Hid (∀ o,(W3.drew.alloc o).heap[eb]? = some (.cells #[q0,.int .i64 nx,.int .i64 dd,.string (strL ename),q4,q5,q6,q7] 47 (0,0)) ∧ eb < (W3.drew.alloc o).heap.size):=Lib.hid fun o=>by
  have hl:=heap_lt h1
  exact ⟨(Below.heap_alloc W3.drew o eb hl).trans h1,by simp;omega⟩
 have HMV:Hid (∀ o,Moved cb (.slice oa on oc) (.slice oa on oc) W3 (W3.drew.alloc o)):=Lib.hid fun o=>Moved.of (((Below.refl W3.heap.size W3).drew).alloc (Nat.le_refl _) o)
 have HCBO:=Lib.hid hcbo
 have HEBO:=Lib.hid hebo
 have HCBR:=Lib.hid hcb
 have c0:W3.cell? ⟨cb,0,none⟩ = some (.slice oa on oc):=by rw [cell_heap h0];rfl
 have e1:W3.cell? ⟨eb,1,none⟩ = some (.int .i64 nx):=by rw [cell_heap h1];rfl
 have e2:W3.cell? ⟨eb,2,none⟩ = some (.int .i64 dd):=by rw [cell_heap h1];rfl
 have e3:W3.cell? ⟨eb,3,none⟩ = some (.string (strL ename)):=by rw [cell_heap h1];rfl
 have ca2:∀ o,(W3.alloc o).cell? ⟨cb,0,none⟩ = some (.slice oa on oc):=fun o=>by rw [cell_heap ((Below.heap_alloc W3 o cb hlt3).trans h0)];rfl
 have honm:on + 1 ≤ 4294967296:=by omega
 conv=>arg 2;whnf
 rw [← ldOp_eq]
 have hld:=ldOp_eq
 clear h0 h1 h2 hR hcb hebo hon hcbo
 go_region_held3 (fun w'=>w'.cell? ⟨eb,1,none⟩ = some (.int .i64 nx) ∧ w'.cell? ⟨eb,2,none⟩ = some (.int .i64 dd) ∧ w'.cell? ⟨eb,3,none⟩ = some (.string (strL ename))) (go_keep) (first | (refine step_app _ rfl (.tmp 119) (.tmp 127) 22 rfl R 47 i0 _ 8 96 Tryz.underlying22 hi hz0 hz1 hz2 (by rfl) (by decide) (.slice oa on oc) on (ckC opn) (by rfl) (HOWA.out _) W3.heap.size 1 (ckRow (nx,dd,ename)) (by rfl) (by rfl) (HNEW.out _) (ckRow_one _) honm (by decide) (HLE3.out _) ?_;intro v6 w6 hown hap;obtain ⟨oa6,oc6,rfl,_⟩:=own_slice hown;have KC:=Lib.hid ((hap.keep (HCBA.out _).2 HCBO.out).trans (HCBA.out _).1);have KE:=Lib.hid ((hap.keep (HEBA.out _).2 HEBO.out).trans (HEBA.out _).1);have g1:w6.cell? ⟨eb,1,none⟩ = some (.int .i64 nx):=(by rw [cell_heap KE.out];rfl);have g2:w6.cell? ⟨eb,2,none⟩ = some (.int .i64 dd):=(by rw [cell_heap KE.out];rfl);have g3:w6.cell? ⟨eb,3,none⟩ = some (.string (strL ename)):=(by rw [cell_heap KE.out];rfl);have d0:w6.cell? ⟨cb,0,none⟩ = some (.slice oa on oc):=(by rw [cell_heap KC.out];rfl);have fz:∀ j,w6.frozen? ⟨cb,j,none⟩ = false:=(fun j=>frozen_heap KC.out);have HAP:=Lib.hid ((HMV.out _).trans (Moved.app hap));have HOWN:=Lib.hid hown;clear hap hown))
 all_goals
  refine hQ.out _ _ _ _ _ _ _ _ _ _ _ _ _ _ _ _ oa6 oc6 _ ?_ (HAP.out.set _ _) (setCell_heap KC.out _)
  exact own_block HOWN.out (fun k hk=>Below.heap_setCell _ _ _ _ (fun e=>by have:=(HOWN.out.lt k hk).1;have:=HCBR.out;have e':k = cb:=e;omega))
end Go.Proofs.YtgjokdngbocehaaGreatDoor
namespace Go.Proofs.YtgjokdngbocehaaGreatDoor
open Go.RowKit
set_option maxRecDepth 1000000 in
set_option maxHeartbeats 4000000 in
theorem take_open (R cb:Nat) (v:Value) (s:BegS) (en ed efr ett:Int) (ename etext:List UInt8) (A:Option Addr) (m c:Nat) (ats:List (List UInt8 × List UInt8)) (w:World) (h:Chk w R cb v s)
  (hb:begOk s ⟨0,en,ed,ename,ats,etext,efr,ett⟩ = true) (hA:AttrsAt w A m ats) (hnl:ename.length ≤ 1048576) (hl:∀ p ∈ ats,p.1.length ≤ 1048576 ∧ p.2.length ≤ 1048576) (hm:m ≤ 1048576)
  (hcap:s.opn.length < 1048576 ∧ s.next < 1048576) (hR:RangesAt w 2) (hT:Lib.Utf8Tabs 0 1 w) :
  Calls Tryz.prog 43 #[.pointer (some ⟨cb,0,none⟩),.agg (evC 0 en ed ename A m c etext efr ett)] w fun e w'=>∃ v',e = .returned (.bool true) ∧ Chk w' R cb v' (begNext s ⟨0,en,ed,ename,ats,etext,efr,ett⟩) ∧ Moved cb v v' w w':=by
 obtain ⟨i0,hi,hz0,hz1,hz2⟩:=info_parts infoEv
 have hb':((s.cnt = 0 ∨ s.opn ≠ []) ∧ en = s.next ∧ ed = (s.opn.length:Int) + 1 ∧ etext = []) ∧ nameB ename = true ∧ attrsB none ats = true:=by
  unfold begOk at hb
  rw [if_pos rfl] at hb
  simp only [Bool.and_eq_true,decide_eq_true_eq] at hb
  exact ⟨hb.1.1,hb.1.2,hb.2⟩
 obtain ⟨⟨hco,rfl,rfl,rfl⟩,hnb,hab⟩:=hb'
 have hlt:=h.lt
 have hle:=h.le
 obtain ⟨s',hs'⟩:∃ s',s' = begNext s ⟨0,s.next,(s.opn.length:Int) + 1,ename,ats,[],efr,ett⟩:=⟨_,rfl⟩
 have HS':Hid (s'.opn = (s.next,(s.opn.length:Int) + 1,ename) :: s.opn ∧ s'.next = s.next + 1 ∧ s'.text = false ∧ s'.cnt = s.cnt + 1):=Lib.hid (by rw [hs'];exact ⟨rfl,rfl,rfl,rfl⟩)
 rw [← hs']
 clear hs' hb
 obtain ⟨oa,oc,rfl,hoc,hoa,_⟩:=own_slice h.own
 have hdone:decide (s.opn = [] ∧ s.cnt ≠ 0) = false:=by
  rw [decide_eq_false_iff_not]
  rintro ⟨h1,h2⟩
  rcases hco with h | h
  ·exact h2 h
  ·exact h h1
 have hat:=h.at'
 rw [hdone] at hat
 have c0:=cell_heap (i:=0) hat
 have c1:=cell_heap (i:=1) hat
 have c2:=cell_heap (i:=2) hat
 have c3:=cell_heap (i:=3) hat
 simp only [List.getElem?_toArray,List.getElem?_cons_zero,List.getElem?_cons_succ] at c0 c1 c2 c3
 have hcbw:cb < w.heap.size:=by omega
 have hsm:=h.sm
 have HOP:Hid (∀ W,Below w.heap.size w W → Calls Tryz.prog 77 #[.pointer (some ⟨cb,0,none⟩),.agg (evC 0 s.next ((s.opn.length:Int) + 1) ename A m c [] efr ett)] W fun e w'=>e = .returned (.bool true) ∧ Below W.heap.size W w'):=Lib.hid fun W hW=>by
  have:=opens_any cb oa s.opn.length oc s.next 0 s.next ((s.opn.length:Int) + 1) efr ett ename [] A m c ats W ((hW.cell (p:=⟨cb,0,none⟩) hcbw).trans c0) ((hW.cell (p:=⟨cb,1,none⟩) hcbw).trans c1) (Nat.lt_of_lt_of_le hcbw hW.size) (hA.below hW) hnl hl hm (by omega) (hR.below hW) (Utf8Tabs_below hT hW)
  rw [hnb,hab,decide_eq_true ⟨rfl,rfl,rfl⟩] at this
  exact this
 have hz:s.opn = [] ∧ s.next = 0 ∨ s.opn ≠ [] ∧ 0 < s.opn.length:=by
  by_cases h0:s.opn = []
  ·rcases hco with h1 | h1
   ·exact .inl ⟨h0,h.fst h1⟩
   ·exact absurd h0 h1
  ·exact .inr ⟨h0,List.length_pos_iff.2 h0⟩
 have HH:=Lib.hid h
 have HAT:=Lib.hid hat
 unfold evC at *
 generalize strL [] = X at *
 have HN1:Hid (∀ o,Below w.heap.size w (w.alloc o) ∧ (w.alloc o).heap[w.heap.size]? = some o ∧ (w.alloc o).heap.size = w.heap.size + 1):=Lib.hid fun o=>⟨(Below.refl w.heap.size w).alloc (Nat.le_refl _) _,heap_alloc_new w _,by simp⟩
 have k0:=fun o=>((HN1.out o).1.cell (p:=⟨cb,0,none⟩) hcbw).trans c0
 have k1:=fun o=>((HN1.out o).1.cell (p:=⟨cb,1,none⟩) hcbw).trans c1
 have k2:=fun o=>((HN1.out o).1.cell (p:=⟨cb,2,none⟩) hcbw).trans c2
 have k3:=fun o=>((HN1.out o).1.cell (p:=⟨cb,3,none⟩) hcbw).trans c3
 have HCBW:=Lib.hid hcbw
 have HC:=Lib.hid (⟨c0,c1,c2,c3⟩:_ ∧ _ ∧ _ ∧ _)
 generalize hon:s.opn.length = on at *
 have HON:=Lib.hid hon
 generalize hnx:s.next = nx at *
 have HNX:=Lib.hid hnx
 have HHL:=Lib.hid hle
 have HLT:=Lib.hid hlt
 clear hat hco hab hnb hdone hl hnl hR hT hA c0 c1 c2 c3 hcbw hon hnx hle hlt hoc hoa
 go_enter Tryz.func43,Tryz.ntmps43
 go_wp2_with fail
 (with_reducible refine (HOP.out _ (HN1.out _).1).mono ?_)
 rintro e w2 ⟨rfl,hb2⟩
 have HB:=Lib.hid ((HN1.out _).1.trans (hb2.mono (HN1.out _).1.size))
 have HEB:=Lib.hid ((hb2.block w.heap.size (by rw [(HN1.out _).2.2];omega)).trans (HN1.out _).2.1)
 have HCB:=Lib.hid ((HB.out.block cb HCBW.out).trans HAT.out)
 have c0:=(HB.out.cell (p:=⟨cb,0,none⟩) HCBW.out).trans HC.out.1
 have c1:=(HB.out.cell (p:=⟨cb,1,none⟩) HCBW.out).trans HC.out.2.1
 have c2:=(HB.out.cell (p:=⟨cb,2,none⟩) HCBW.out).trans HC.out.2.2.1
 have fz:∀ j,w2.frozen? ⟨cb,j,none⟩ = false:=fun j=>frozen_heap HCB.out
 have e0:w2.cell? ⟨w.heap.size,0,none⟩ = some (.int .i64 0):=by rw [cell_heap HEB.out];rfl
 clear k0 k1 k2 k3 hb2
 have ew:IntKind.i64.wrap (nx + 1) = nx + 1:=IntWalk.i64_in _ (by omega)
 rcases hz with ⟨h1,h2⟩ | ⟨h1,h2⟩
 ·have hon0:on < 1:=by have:=HON.out;rw [h1] at this;simp at this;omega
  clear h1
  subst h2
  go_wp2_with fail
  have HS3:Hid (∀ j u,(w2.setCell ⟨cb,j,none⟩ u).heap.size = w2.heap.size):=Lib.hid fun j u=>by simp [World.setCell]
  have hebcb:cb ≠ w.heap.size:=Nat.ne_of_lt HCBW.out
  have HOW3:w2.ownsRow R 47 8 (.slice oa on oc) on (ckC s.opn):=by
   have h0:=HH.out.own
   rw [HON.out] at h0
   exact own_block h0 (fun k hk=>HB.out.block k (h0.lt k hk).2)
  have hnc:(Value.slice oa on oc).ownBlock ≠ some cb:=fun e=>by have:=(HOW3.lt _ e).1;have:=HLT.out;omega
  have hne:(Value.slice oa on oc).ownBlock ≠ some w.heap.size:=fun e=>by
   have h0:=HH.out.own
   rw [HON.out] at h0
   have:=(h0.lt _ e).2;omega
  refine take15_any R cb w.heap.size on _ ((on:Int) + 1) false false oa oc ename s.opn _ _ _ _ _ _ _ _ _ _ _ _ _ _ _ _ _ _ _ _ _ _ _ _ _ _ _ _ _ _ _ _ _ _ _ _ _ _ _ _ _ _ _ _ _ _ _ _ _ _ _ _ _ _ _ _ _ _ _ _ _ _ _ _ _ _ _ _ _ _ _ _ _ _ _ _ _ _ _ _ _ _ _ _ _ _ _ _ _ _ _ _ _ _ _ _ _ _ _ _ _ _ _ _ _ _ _ _ _ _ _ _ _ _ _ _ _ _ _ _ _ _ _ _ _ _ _ _ _ _ _ _ _ _ _ _ _ _ _ _ _ _ _ _ _ _ _ _ _ _ _ _ _ _ _ _ _ _ _ _ _ _ _ _ _ _ _ _ _ _ _ _ _ _ _ _ (setCell_heap HCB.out _) ((Below.heap_setCell _ _ _ _ (Ne.symm hebcb)).trans HEB.out) (own_block HOW3 (fun k hk=>Below.heap_setCell _ _ _ _ (fun e=>by have e':k = cb:=e;subst e';exact hnc hk))) (by rw [HS3.out];exact Nat.le_trans HHL.out HB.out.size) HLT.out hebcb hne (by omega) _ (Lib.hid fun y115 y116 y117 y118 y119 y120 y121 y122 y123 y124 y125 y126 y127 y128 y129 y130 oa6 oc6 w6 hown hmv hcb6=>?_)
  clear c0 c1 c2 fz HOW3
  have d1:w6.cell? ⟨cb,1,none⟩ = some (.int .i64 0):=by rw [cell_heap hcb6];rfl
  have fz6:∀ j,w6.frozen? ⟨cb,j,none⟩ = false:=fun j=>frozen_heap hcb6
  have X:=Lib.hid (⟨hown,hmv,hcb6⟩:_ ∧ _ ∧ _)
  clear hown hmv hcb6
  have e6:w6.cell? ⟨w.heap.size,0,none⟩ = some (.int .i64 0):=by
   have h:=X.out.2.1.block w.heap.size (by rw [HS3.out];exact heap_lt HEB.out) (Ne.symm hebcb) hne
   rw [cell_heap (h.trans ((Below.heap_setCell _ _ _ _ (Ne.symm hebcb)).trans HEB.out))];rfl
  go_wp2_with fail
  go_ret
  obtain ⟨hown,hmv,hcb6⟩:=X.out
  obtain ⟨t1,t2,t3,t4⟩:=HS'.out
  refine ⟨_,rfl,⟨HLT.out,?_,?_,?_,?_,?_⟩,((((Moved.of HB.out).set _ _).trans hmv).set _ _)⟩
  ·have:=hmv.size
   have:=HB.out.size
   have:=HHL.out
   rw [HS3.out] at *
   simp [World.setCell]
   omega
  ·rw [t1,t2,t3,decide_eq_false (by simp)]
   exact setCell_heap hcb6 _
  ·rw [t1,List.length_cons,HON.out,ckC_cons]
   exact own_block hown (fun k hk=>Below.heap_setCell _ _ _ _ (fun e=>by have:=(hown.lt k hk).1;have:=HLT.out;have e':k = cb:=e;omega))
  ·rw [t4];intro h;omega
  ·rw [t1,t2,List.length_cons,HON.out];omega
 ·go_wp2_with fail
  have HS3:Hid (∀ j u,(w2.setCell ⟨cb,j,none⟩ u).heap.size = w2.heap.size):=Lib.hid fun j u=>by simp [World.setCell]
  have hebcb:cb ≠ w.heap.size:=Nat.ne_of_lt HCBW.out
  have HOW3:w2.ownsRow R 47 8 (.slice oa on oc) on (ckC s.opn):=by
   have h0:=HH.out.own
   rw [HON.out] at h0
   exact own_block h0 (fun k hk=>HB.out.block k (h0.lt k hk).2)
  have hnc:(Value.slice oa on oc).ownBlock ≠ some cb:=fun e=>by have:=(HOW3.lt _ e).1;have:=HLT.out;omega
  have hne:(Value.slice oa on oc).ownBlock ≠ some w.heap.size:=fun e=>by
   have h0:=HH.out.own
   rw [HON.out] at h0
   have:=(h0.lt _ e).2;omega
  refine take15_any R cb w.heap.size on _ ((on:Int) + 1) false false oa oc ename s.opn _ _ _ _ _ _ _ _ _ _ _ _ _ _ _ _ _ _ _ _ _ _ _ _ _ _ _ _ _ _ _ _ _ _ _ _ _ _ _ _ _ _ _ _ _ _ _ _ _ _ _ _ _ _ _ _ _ _ _ _ _ _ _ _ _ _ _ _ _ _ _ _ _ _ _ _ _ _ _ _ _ _ _ _ _ _ _ _ _ _ _ _ _ _ _ _ _ _ _ _ _ _ _ _ _ _ _ _ _ _ _ _ _ _ _ _ _ _ _ _ _ _ _ _ _ _ _ _ _ _ _ _ _ _ _ _ _ _ _ _ _ _ _ _ _ _ _ _ _ _ _ _ _ _ _ _ _ _ _ _ _ _ _ _ _ _ _ _ _ _ _ _ _ _ _ _ (setCell_heap HCB.out _) ((Below.heap_setCell _ _ _ _ (Ne.symm hebcb)).trans HEB.out) (own_block HOW3 (fun k hk=>Below.heap_setCell _ _ _ _ (fun e=>by have e':k = cb:=e;subst e';exact hnc hk))) (by rw [HS3.out];exact Nat.le_trans HHL.out HB.out.size) HLT.out hebcb hne (by omega) _ (Lib.hid fun y115 y116 y117 y118 y119 y120 y121 y122 y123 y124 y125 y126 y127 y128 y129 y130 oa6 oc6 w6 hown hmv hcb6=>?_)
  clear c0 c1 c2 fz HOW3
  have d1:w6.cell? ⟨cb,1,none⟩ = some (.int .i64 nx):=by rw [cell_heap hcb6];rfl
  have fz6:∀ j,w6.frozen? ⟨cb,j,none⟩ = false:=fun j=>frozen_heap hcb6
  have X:=Lib.hid (⟨hown,hmv,hcb6⟩:_ ∧ _ ∧ _)
  clear hown hmv hcb6
  have e6:w6.cell? ⟨w.heap.size,0,none⟩ = some (.int .i64 0):=by
   have h:=X.out.2.1.block w.heap.size (by rw [HS3.out];exact heap_lt HEB.out) (Ne.symm hebcb) hne
   rw [cell_heap (h.trans ((Below.heap_setCell _ _ _ _ (Ne.symm hebcb)).trans HEB.out))];rfl
  go_wp2_with fail
  go_ret
  obtain ⟨hown,hmv,hcb6⟩:=X.out
  obtain ⟨t1,t2,t3,t4⟩:=HS'.out
  refine ⟨_,rfl,⟨HLT.out,?_,?_,?_,?_,?_⟩,((((Moved.of HB.out).set _ _).trans hmv).set _ _)⟩
  ·have:=hmv.size
   have:=HB.out.size
   have:=HHL.out
   rw [HS3.out] at *
   simp [World.setCell]
   omega
  ·rw [t1,t2,t3,decide_eq_false (by simp)]
   exact setCell_heap hcb6 _
  ·rw [t1,List.length_cons,HON.out,ckC_cons]
   exact own_block hown (fun k hk=>Below.heap_setCell _ _ _ _ (fun e=>by have:=(hown.lt k hk).1;have:=HLT.out;have e':k = cb:=e;omega))
  ·rw [t4];intro h;omega
  ·rw [t1,t2,List.length_cons,HON.out];omega
end Go.Proofs.YtgjokdngbocehaaGreatDoor
namespace Go.Proofs.YtgjokdngbocehaaGreatDoor
open Go.RowKit
set_option maxRecDepth 1000000 in
set_option maxHeartbeats 4000000 in
theorem take_text (R cb:Nat) (v:Value) (s:BegS) (en ed efr ett:Int) (ename etext:List UInt8) (A:Option Addr) (m c:Nat) (ats:List (List UInt8 × List UInt8)) (w:World) (h:Chk w R cb v s)
  (hb:begOk s ⟨1,en,ed,ename,ats,etext,efr,ett⟩ = true) (hA:AttrsAt w A m ats) (htl:etext.length ≤ 1048576)
  (hcap:s.next < 1048576) (hR:RangesAt w 2) (hT:Lib.Utf8Tabs 0 1 w) :
  Calls Tryz.prog 43 #[.pointer (some ⟨cb,0,none⟩),.agg (evC 1 en ed ename A m c etext efr ett)] w fun e w'=>∃ v',e = .returned (.bool true) ∧ Chk w' R cb v' (begNext s ⟨1,en,ed,ename,ats,etext,efr,ett⟩) ∧ Moved cb v v' w w':=by
 have hb':(s.opn ≠ [] ∧ en = s.next ∧ ed = (s.opn.length:Int) + 1 ∧ ename = [] ∧ ats = [] ∧ etext ≠ []) ∧ textsB etext = true ∧ s.text = false:=by
  unfold begOk at hb
  rw [if_neg (by simp),if_pos rfl] at hb
  simp only [Bool.and_eq_true,decide_eq_true_eq,Bool.not_eq_true'] at hb
  exact ⟨hb.1.1,hb.1.2,hb.2⟩
 obtain ⟨⟨hco,rfl,rfl,rfl,rfl,htx⟩,htb,htf⟩:=hb'
 have hm0:m = 0:=hA.1
 subst hm0
 have hlt:=h.lt
 have hle:=h.le
 obtain ⟨s',hs'⟩:∃ s',s' = begNext s ⟨1,s.next,(s.opn.length:Int) + 1,[],[],etext,efr,ett⟩:=⟨_,rfl⟩
 have HS':Hid (s'.opn = s.opn ∧ s'.next = s.next + 1 ∧ s'.text = true ∧ s'.cnt = s.cnt + 1):=Lib.hid (by rw [hs'];exact ⟨rfl,rfl,rfl,rfl⟩)
 rw [← hs']
 clear hs' hb
 obtain ⟨oa,oc,rfl,hoc,hoa,_⟩:=own_slice h.own
 have hdone:decide (s.opn = [] ∧ s.cnt ≠ 0) = false:=by
  rw [decide_eq_false_iff_not]
  exact fun ⟨h1,_⟩=>hco h1
 have hat:=h.at'
 rw [hdone,htf] at hat
 have c0:=cell_heap (i:=0) hat
 have c1:=cell_heap (i:=1) hat
 have c2:=cell_heap (i:=2) hat
 have c3:=cell_heap (i:=3) hat
 simp only [List.getElem?_toArray,List.getElem?_cons_zero,List.getElem?_cons_succ] at c0 c1 c2 c3
 have hcbw:cb < w.heap.size:=by omega
 have hsm:=h.sm
 have hlen:0 < s.opn.length:=List.length_pos_iff.2 hco
 have HTX:Hid (∀ W,Below w.heap.size w W → Calls Tryz.prog 78 #[.string (strL etext)] W fun e w'=>e = .returned (.bool true) ∧ Below W.heap.size W w'):=Lib.hid fun W hW=>by
  have:=Texts_any etext W (by omega) (hR.below hW) (Utf8Tabs_below hT hW)
  rw [htb] at this
  exact this
 have HH:=Lib.hid h
 have HAT:=Lib.hid hat
 have t1:(strL ([]:List UInt8)).toList.isEmpty = true:=strL_isE []
 have t2:(strL etext).toList.isEmpty = false:=by
  rw [strL_isE]
  cases etext with
  | nil=>exact absurd rfl htx
  | cons _ _=>rfl
 unfold evC at *
 generalize strL [] = X at *
 generalize strL etext = T at *
 have HN1:Hid (∀ o,Below w.heap.size w (w.alloc o) ∧ (w.alloc o).heap[w.heap.size]? = some o ∧ (w.alloc o).heap.size = w.heap.size + 1):=Lib.hid fun o=>⟨(Below.refl w.heap.size w).alloc (Nat.le_refl _) _,heap_alloc_new w _,by simp⟩
 have k3:=fun o=>((HN1.out o).1.cell (p:=⟨cb,3,none⟩) hcbw).trans c3
 have HCBW:=Lib.hid hcbw
 have HC:=Lib.hid (⟨c0,c1,c2,c3⟩:_ ∧ _ ∧ _ ∧ _)
 generalize hon:s.opn.length = on at *
 have HON:=Lib.hid hon
 generalize hnx:s.next = nx at *
 have HHL:=Lib.hid hle
 have HLT:=Lib.hid hlt
 have HCO:=Lib.hid hco
 clear hat hco hdone hR hT hA c0 c1 c2 c3 hcbw hon hnx hle hlt hoc hoa htf htx htb h htl
 have ew:IntKind.i64.wrap ((on:Int) + 1) = (on:Int) + 1:=IntWalk.i64_in _ (by omega)
 have ew2:IntKind.i64.wrap (nx + 1) = nx + 1:=IntWalk.i64_in _ (by omega)
 go_enter Tryz.func43,Tryz.ntmps43
 go_wp2_with fail
 obtain ⟨eb,heb⟩:∃ eb,eb = w.heap.size:=⟨_,rfl⟩
 obtain ⟨W1,hW1⟩:∃ W1,W1 = w.alloc (.cells #[.int .i64 1,.int .i64 nx,.int .i64 ((on:Int) + 1),.string X,.slice A 0 c,.string T,.int .i64 efr,.int .i64 ett] 47):=⟨_,rfl⟩
 rw [← hW1,← heb]
 obtain ⟨hb1,hn1,hz1⟩:=HN1.out (.cells #[.int .i64 1,.int .i64 nx,.int .i64 ((on:Int) + 1),.string X,.slice A 0 c,.string T,.int .i64 efr,.int .i64 ett] 47)
 rw [← hW1] at hb1 hn1 hz1
 rw [← heb] at hn1
 have hS:∀ w',Below W1.heap.size W1 w' → w'.cell? ⟨cb,0,none⟩ = some (.slice oa on oc) ∧ w'.cell? ⟨cb,1,none⟩ = some (.int .i64 nx) ∧ w'.cell? ⟨cb,2,none⟩ = some (.bool false) ∧ w'.cell? ⟨eb,1,none⟩ = some (.int .i64 nx) ∧ w'.cell? ⟨eb,2,none⟩ = some (.int .i64 ((on:Int) + 1)) ∧ w'.cell? ⟨eb,3,none⟩ = some (.string X) ∧ w'.cell? ⟨eb,4,none⟩ = some (.slice A 0 c) ∧ w'.cell? ⟨eb,5,none⟩ = some (.string T) ∧ Below W1.heap.size W1 w':=fun w' hb=>by
  have e:=(hb.block eb (by rw [hz1,heb];omega)).trans hn1
  have hb2:Below w.heap.size w w':=hb1.trans (hb.mono hb1.size)
  exact ⟨(hb2.cell (p:=⟨cb,0,none⟩) HCBW.out).trans HC.out.1,(hb2.cell (p:=⟨cb,1,none⟩) HCBW.out).trans HC.out.2.1,(hb2.cell (p:=⟨cb,2,none⟩) HCBW.out).trans HC.out.2.2.1,by rw [cell_heap e];rfl,by rw [cell_heap e];rfl,by rw [cell_heap e];rfl,by rw [cell_heap e];rfl,by rw [cell_heap e];rfl,hb⟩
 have HS:=Lib.hid hS
 have hS0:Below W1.heap.size W1 W1.drew:=(Below.refl _ _).drew
 have HTK:Hid (∀ w',Below W1.heap.size W1 w' → Calls Tryz.prog 78 #[.string T] w' fun e w''=>e = .returned (.bool true) ∧ Below W1.heap.size W1 w''):=Lib.hid fun w' hb=>(HTX.out w' (hb1.trans (hb.mono hb1.size))).mono fun e w'' h=>⟨h.1,hb.trans (h.2.mono hb.size)⟩
 have HB1:=Lib.hid hb1
 have HE1:=Lib.hid (⟨hn1,hz1,heb⟩:_ ∧ _ ∧ _)
 clear hS k3 hW1 hb1 hn1 hz1 heb
 go_region_held3 (fun w'=>w'.cell? ⟨cb,0,none⟩ = some (.slice oa on oc) ∧ w'.cell? ⟨cb,1,none⟩ = some (.int .i64 nx) ∧ w'.cell? ⟨cb,2,none⟩ = some (.bool false) ∧ w'.cell? ⟨eb,1,none⟩ = some (.int .i64 nx) ∧ w'.cell? ⟨eb,2,none⟩ = some (.int .i64 ((on:Int) + 1)) ∧ w'.cell? ⟨eb,3,none⟩ = some (.string X) ∧ w'.cell? ⟨eb,4,none⟩ = some (.slice A 0 c) ∧ w'.cell? ⟨eb,5,none⟩ = some (.string T) ∧ Below W1.heap.size W1 w') (first | exact HS.out _ ‹_› | go_keep) (first | (go_at_call 78;(with_reducible refine (HTK.out _ ‹_›).mono ?_);rintro e w3 ⟨rfl,hb3⟩))
 have hcb1:=HE1.out
 have HB3:=Lib.hid (HB1.out.trans (hb3.mono HB1.out.size))
 have HCB3:=Lib.hid ((HB3.out.block cb HCBW.out).trans HAT.out)
 obtain ⟨d0,d1,d2,e1,e2,e3,e4,e5,_⟩:=HS.out w3 hb3
 have e0:w3.cell? ⟨eb,0,none⟩ = some (.int .i64 1):=by
  have e:=(hb3.block eb (by rw [HE1.out.2.1,HE1.out.2.2];omega)).trans HE1.out.1
  rw [cell_heap e];rfl
 have fz:∀ j,w3.frozen? ⟨cb,j,none⟩ = false:=fun j=>frozen_heap HCB3.out
 have hebcb:cb ≠ eb:=by rw [HE1.out.2.2];exact Nat.ne_of_lt HCBW.out
 clear hb3 hcb1
 go_wp2_with fail
 go_ret
 obtain ⟨q1,q2,q3,q4⟩:=HS'.out
 refine ⟨_,rfl,⟨HLT.out,?_,?_,?_,?_,?_⟩,(((Moved.of HB3.out).set _ _).set _ _)⟩
 ·have:=HB3.out.size
  have:=HHL.out
  simp [World.setCell]
  omega
 ·rw [q1,q2,q3,decide_eq_false (fun h=>HCO.out h.1)]
  exact setCell_heap (setCell_heap HCB3.out _) _
 ·rw [q1,HON.out]
  have h0:=HH.out.own
  rw [HON.out] at h0
  exact own_block h0 (fun k hk=>by
   have hk2:k ≠ cb:=fun e=>by have:=(h0.lt k hk).1;have:=HLT.out;omega
   rw [Below.heap_setCell _ _ _ _ hk2,Below.heap_setCell _ _ _ _ hk2]
   exact HB3.out.block k (h0.lt k hk).2)
 ·rw [q4];intro h;omega
 ·rw [q1,q2,HON.out];omega
end Go.Proofs.YtgjokdngbocehaaGreatDoor
