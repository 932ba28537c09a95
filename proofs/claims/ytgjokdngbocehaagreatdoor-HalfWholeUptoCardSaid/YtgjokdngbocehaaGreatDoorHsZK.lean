/-
  gimletref09.Beginning.
-/
import Derived.Test.YtgjokdngbocehaaGreatDoorHsA
import Derived.Test.YtgjokdngbocehaaGreatDoorHsC
import Derived.Test.YtgjokdngbocehaaGreatDoorHsD
import Derived.Test.YtgjokdngbocehaaGreatDoorHsE
import Derived.Test.YtgjokdngbocehaaGreatDoorHsJ
import Derived.Test.YtgjokdngbocehaaGreatDoorHsL
import Derived.Test.YtgjokdngbocehaaGreatDoorHsN
import Derived.Test.YtgjokdngbocehaaGreatDoorHsZC
namespace Go.Proofs.YtgjokdngbocehaaGreatDoor
open Go.RowKit
set_option maxRecDepth 1000000 in
set_option maxHeartbeats 16000000 in
theorem begin_any (a:Option Addr) (n c:Nat) (evs:List Ev) (w:World) (hE:EvsAt w a n evs) (hn:n ≤ 1048576) (hsm:∀ e ∈ evs,EvSm e) :
  Calls Tryz.prog 30 #[.slice a n c] w fun e w'=>e = retB (begR evs) ∧ Below w.heap.size w w':=by
 obtain ⟨j0,hj,hjz0,hjz1,hjz2⟩:=info_parts infoInt
 have HE:=Lib.hid hE
 have HN:Hid (n = evs.length):=Lib.hid hE.1
 have HSM:=Lib.hid hsm
 clear hE hsm
 go_enter Tryz.func30,Tryz.ntmps30
 go_wp2_with fail
 go_loopw [5,6,7] (fun ov nv kv wr=>∃ (k:Nat) (nx:Int) (s:BegS) (pos:List Nat),kv = .int .i64 k ∧ nv = .int .i64 nx ∧ k ≤ n ∧ 0 ≤ nx ∧ nx ≤ k ∧ Below w.heap.size w wr ∧ Hid (BgInv evs k s nx pos ∧ wr.ownsRow w.heap.size 3 1 ov pos.length (posC pos))) (fun _ _ kv _=>n - (intOf kv).toNat)
 case atStart=>exact ⟨0,0,beg0,[],rfl,rfl,Nat.zero_le _,Int.le_refl _,Int.le_refl _,Below.refl _ _,Lib.hid ⟨⟨rfl,rfl,True.intro,fun j h=>by omega⟩,World.ownsRow_nil _ _ _ _⟩⟩
 case round =>
  obtain ⟨k,nx,s,pos,rfl,rfl,hk,hx0,hx1,hbr,hbg⟩:=hrel
  have HBG:=Lib.hid hbg.out.1
  have hor:=hbg.out.2
  obtain ⟨oa,oc,rfl,_,_,_⟩:=own_slice hor
  have hble:=beg_le _ _ _ HBG.out.all
  simp only [beg0,List.length_nil,List.length_take] at hble
  have hpl:=HBG.out.len
  obtain ⟨on,hon⟩:∃ on,pos.length = on:=⟨_,rfl⟩
  rw [hon] at hor hpl ⊢
  have HON:Hid (s.opn.length = on):=Lib.hid hpl.symm
  have HPL:=Lib.hid hon
  have honk:on ≤ k:=by omega
  have honb:on + 1 ≤ 4294967296:=by omega
  have HOR:=Lib.hid hor
  have HBR:=Lib.hid hbr
  clear hor hbr hbg hpl hon hble
  by_cases hkn:k < n
  ·have hkl:k < evs.length:=by rw [← HN.out];exact hkn
   have hcnt:=HBG.out.cnt (by omega)
   obtain ⟨b,o,A,m,c2,rfl,hb,hmc,hA,hcells⟩:=HE.out.at8 k hkl
   have hsmk:=HSM.out _ (List.getElem_mem hkl)
   have hek:evs[k]? = some evs[k]:=List.getElem?_eq_getElem hkl
   generalize evs[k] = e at *
   obtain ⟨kd,num,dep,name,ats,text,fr,tt⟩:=e
   obtain ⟨e0,e1,e2,e3,e4,e5,e6,e7⟩:=hcells wr HBR.out
   obtain ⟨sm1,sm2,sm3,sm4⟩:=hsmk
   simp only at e0 e1 e2 e3 e4 e5 e6 e7 hA sm1 sm2 sm3 sm4
   have HEK:=Lib.hid hek
   have HBAD:Hid (begOk s ⟨kd,num,dep,name,ats,text,fr,tt⟩ = false → begR evs = (false,0,false)):=Lib.hid fun h=>HBG.out.bad hek h
   have HNM:Hid (∀ W,Calls Tryz.prog 51 #[.string (strL name)] W fun e w'=>e = .returned (.bool (nameB name)) ∧ Below W.heap.size W w'):=Lib.hid fun W=>Name2_any name (by omega) W
   have HTX:Hid (∀ W,Calls Tryz.prog 53 #[.string (strL text)] W fun e w'=>e = .returned (.bool (textsB text)) ∧ Below W.heap.size W w'):=Lib.hid fun W=>Texts2_any text (by omega) W
   have HAA:=Lib.hid (⟨hA,sm4,by rw [hA.1];exact sm3⟩:AttrsAt w A m ats ∧ _ ∧ m ≤ 1048576)
   have HME:Hid ((m < 1 → ats.isEmpty = true) ∧ (0 < m → ats.isEmpty = false)):=Lib.hid (by
    have:=hA.1
    cases ats with
    | nil=>exact ⟨fun _=>rfl,fun h=>by simp at this;omega⟩
    | cons x r=>exact ⟨fun h=>by simp at this;omega,fun _=>rfl⟩)
   have hmb:m ≤ 1048576:=by rw [hA.1];exact sm3
   have HTE:Hid ((strL text).toList.isEmpty = text.isEmpty):=Lib.hid (strU_empty text)
   have HNE:Hid ((strL name).toList.isEmpty = name.isEmpty):=Lib.hid (strU_empty name)
   have HR1:Hid (∀ o,Below wr.heap.size wr (wr.alloc o)):=Lib.hid fun o=>(Below.refl _ _).alloc (Nat.le_refl _) o
   have HN1:Hid (∀ o,(wr.alloc o).heap[wr.heap.size]? = some o ∧ (wr.alloc o).heap.size = wr.heap.size + 1):=Lib.hid fun o=>⟨heap_alloc_new wr o,by simp⟩
   have HCNT:=Lib.hid hcnt
   clear hcells hA hek hmc hb sm1 sm2 sm3 sm4 hcnt
   by_cases hcl:0 < k ∧ on < 1
   ·obtain ⟨hk0,hon0⟩:=hcl
    have HBO:Hid (begOk s ⟨kd,num,dep,name,ats,text,fr,tt⟩ = false):=Lib.hid (begOk_closed _ _ (by rw [HCNT.out];omega) (List.eq_nil_of_length_eq_zero (by rw [HON.out];omega)))
    go_wp2_with fail
    go_ret3
    exact ⟨retB_bad (HBAD.out (HBO.out.trans (by first | (simp [];done)))),(HBR.out.trans ((HR1.out _).mono HBR.out.size))⟩
   ·by_cases hk0:k < 1
    ·have hon0:on < 1:=by omega
     by_cases k0:kd = 0
     ·subst k0
      have hdec:decide (s.cnt = 0 ∨ s.opn ≠ []) = true:=decide_eq_true (.inl (by rw [HCNT.out];omega))
      have HBO:Hid (begOk s ⟨0,num,dep,name,ats,text,fr,tt⟩ = (decide (num = nx) && (decide (dep = (on:Int) + 1) && (text.isEmpty && (nameB name && attrsB none ats))))):=Lib.hid (by rw [begOk0,hdec,Bool.true_and,HBG.out.nx,HON.out])
      clear hdec
      by_cases q1:num = nx
      ·subst q1
       by_cases q2:dep = (on:Int) + 1
       ·subst q2
        cases q3:text.isEmpty with
        | true =>
         rw [q3] at HTE
         have hte:=HTE.out
         cases q4:nameB name with
         | false =>
          have HNK:Hid (∀ W,Calls Tryz.prog 51 #[.string (strL name)] W fun e w'=>e = .returned (.bool false) ∧ Below W.heap.size W w'):=Lib.hid fun W=>by have:=HNM.out W;rw [q4] at this;exact this
          go_wp2_with fail
          (with_reducible refine (HNK.out _).mono ?_)
          rintro e w2 ⟨rfl,hb2⟩
          have hR2:=(HR1.out _).trans (hb2.mono (HR1.out _).size)
          clear hb2
          go_wp2_with fail
          go_ret3
          exact ⟨retB_bad (HBAD.out (HBO.out.trans (by first | (simp [q3,q4];done) | (rw [q3,q4])))),(HBR.out.trans (hR2.mono HBR.out.size))⟩
         | true =>
          have HNK:Hid (∀ W,Calls Tryz.prog 51 #[.string (strL name)] W fun e w'=>e = .returned (.bool true) ∧ Below W.heap.size W w'):=Lib.hid fun W=>by have:=HNM.out W;rw [q4] at this;exact this
          go_wp2_with fail
          (with_reducible refine (HNK.out _).mono ?_)
          rintro e w2 ⟨rfl,hb2⟩
          have hR2:=(HR1.out _).trans (hb2.mono (HR1.out _).size)
          have f4:w2.cell? ⟨wr.heap.size,4,none⟩ = some (.slice A m c2):=by rw [cell_heap ((hb2.block wr.heap.size (by rw [(HN1.out _).2];omega)).trans (HN1.out _).1)];rfl
          have HAT:Hid (∀ W,Below w.heap.size w W → Calls Tryz.prog 52 #[.slice A m c2] W fun e w'=>e = .returned (.bool (attrsB none ats)) ∧ Below W.heap.size W w'):=Lib.hid fun W hW=>attrs9_any A m c2 ats W (HAA.out.1.below hW) HAA.out.2.1 HAA.out.2.2
          have HR2:=Lib.hid hR2
          clear hb2 hR2
          cases q5:attrsB none ats with
          | false =>
           rw [q5] at HAT
           go_wp2_with fail
           (with_reducible refine (HAT.out _ (HBR.out.trans (HR2.out.mono HBR.out.size))).mono ?_)
           rintro e w3 ⟨rfl,hb3⟩
           have hR3:=HR2.out.trans (hb3.mono HR2.out.size)
           clear hb3
           go_wp2_with fail
           go_ret3
           exact ⟨retB_bad (HBAD.out (HBO.out.trans (by first | (simp [q3,q4,q5];done) | (rw [q3,q4,q5])))),(HBR.out.trans (hR3.mono HBR.out.size))⟩
          | true =>
           rw [q5] at HAT
           go_wp2_with fail
           (with_reducible refine (HAT.out _ (HBR.out.trans (HR2.out.mono HBR.out.size))).mono ?_)
           rintro e w3 ⟨rfl,hb3⟩
           have hR3:=HR2.out.trans (hb3.mono HR2.out.size)
           have HOW3:Hid (w3.ownsRow w.heap.size 3 1 (.slice oa on oc) on (posC pos)):=Lib.hid (own_block HOR.out (fun j hj=>hR3.block j (HOR.out.lt j hj).2))
           have HB3:=Lib.hid (HBR.out.trans (hR3.mono HBR.out.size))
           clear hb3 hR3 f4
           go_wp2_with (at_builtin;go_must ((refine wpList_app w3 (by rfl) _ _ 66 (by rfl) w.heap.size 3 j0 (.int .i64 0) 1 8 Tryz.underlying66 hj hjz0 hjz1 hjz2 (by rfl) (by decide) (.slice oa on oc) on (posC pos) (by rfl) HOW3.out w3.heap.size rfl 1 [.int .i64 k] (by rfl) (by rfl) (by intro u hu;simp only [List.mem_cons,List.not_mem_nil,or_false] at hu;subst hu;rfl) honb (by decide) HB3.out.size (fun vO' w7 hown7 hap7=>?_))))
           have hb7:Below w.heap.size w w7:=(HB3.out.alloc HB3.out.size _).trans (hap7.below (by have:=HB3.out.size;simp;omega) (fun j hj=>(HOW3.out.lt j hj).1))
           have hst:=HBG.out.step0 HEK.out rfl (by rw [HBO.out,q3,q4,q5];simp)
           have hown8:w7.ownsRow w.heap.size 3 1 vO' (k :: pos).length (posC (k :: pos)):=by rw [posC_cons,List.length_cons,HPL.out];exact hown7
           have X:=Lib.hid (⟨hst,hown8⟩:_ ∧ _)
           clear hap7 hown7 hown8 hst
           go_wp2_with fail
           go_roundw
           case rel=>exact ⟨k + 1,num + 1,_,k :: pos,by go_num,rfl,by omega,by omega,by omega,hb7,X⟩
           case measure=>simp [intOf];omega
        | false =>
         rw [q3] at HTE
         have hte:=HTE.out
         go_wp2_with fail
         go_ret3
         exact ⟨retB_bad (HBAD.out (HBO.out.trans (by first | (simp [q3];done) | (rw [q3])))),(HBR.out.trans ((HR1.out _).mono HBR.out.size))⟩
       ·have t2:(dep != (on:Int) + 1) = true:=by simpa using q2
        rw [decide_eq_false q2] at HBO
        clear q2
        go_wp2_with fail
        go_ret3
        exact ⟨retB_bad (HBAD.out (HBO.out.trans (by first | (simp [];done)))),(HBR.out.trans ((HR1.out _).mono HBR.out.size))⟩
      ·have t1:(num != nx) = true:=by simpa using q1
       rw [decide_eq_false q1] at HBO
       clear q1
       go_wp2_with fail
       go_ret3
       exact ⟨retB_bad (HBAD.out (HBO.out.trans (by first | (simp [];done)))),(HBR.out.trans ((HR1.out _).mono HBR.out.size))⟩
     ·have k0b:(kd == 0) = false:=by simpa using k0
      by_cases k1:kd = 1
      ·subst k1
       have HBO:Hid (begOk s ⟨1,num,dep,name,ats,text,fr,tt⟩ = false):=Lib.hid (by rw [begOk1,decide_eq_false (by intro h;exact h (List.eq_nil_of_length_eq_zero (by rw [HON.out];omega)))];rfl)
       go_wp2_with fail
       go_ret3
       exact ⟨retB_bad (HBAD.out (HBO.out.trans (by first | (simp [];done)))),(HBR.out.trans ((HR1.out _).mono HBR.out.size))⟩
      ·have k1b:(kd == 1) = false:=by simpa using k1
       by_cases k2:kd = 2
       ·subst k2
        have HBO:Hid (begOk s ⟨2,num,dep,name,ats,text,fr,tt⟩ = false):=Lib.hid (by rw [begOk2,List.eq_nil_of_length_eq_zero (show s.opn.length = 0 by rw [HON.out];omega)];simp)
        go_wp2_with fail
        go_ret3
        exact ⟨retB_bad (HBAD.out (HBO.out.trans (by first | (simp [];done)))),(HBR.out.trans ((HR1.out _).mono HBR.out.size))⟩
       ·have k2b:(kd == 2) = false:=by simpa using k2
        have HBO:Hid (begOk s ⟨kd,num,dep,name,ats,text,fr,tt⟩ = false):=Lib.hid (begOk3 _ _ k0 k1 k2)
        go_wp2_with fail
        go_ret3
        exact ⟨retB_bad (HBAD.out (HBO.out.trans (by first | (simp [];done)))),(HBR.out.trans ((HR1.out _).mono HBR.out.size))⟩
    ·have hon1:0 < on:=by omega
     have hk1:0 < k:=by omega
     by_cases k0:kd = 0
     ·subst k0
      have hdec:decide (s.cnt = 0 ∨ s.opn ≠ []) = true:=decide_eq_true (.inr (fun h=>by have:=HON.out;rw [h] at this;simp at this;omega))
      have HBO:Hid (begOk s ⟨0,num,dep,name,ats,text,fr,tt⟩ = (decide (num = nx) && (decide (dep = (on:Int) + 1) && (text.isEmpty && (nameB name && attrsB none ats))))):=Lib.hid (by rw [begOk0,hdec,Bool.true_and,HBG.out.nx,HON.out])
      clear hdec
      by_cases q1:num = nx
      ·subst q1
       by_cases q2:dep = (on:Int) + 1
       ·subst q2
        cases q3:text.isEmpty with
        | true =>
         rw [q3] at HTE
         have hte:=HTE.out
         cases q4:nameB name with
         | false =>
          have HNK:Hid (∀ W,Calls Tryz.prog 51 #[.string (strL name)] W fun e w'=>e = .returned (.bool false) ∧ Below W.heap.size W w'):=Lib.hid fun W=>by have:=HNM.out W;rw [q4] at this;exact this
          go_wp2_with fail
          (with_reducible refine (HNK.out _).mono ?_)
          rintro e w2 ⟨rfl,hb2⟩
          have hR2:=(HR1.out _).trans (hb2.mono (HR1.out _).size)
          clear hb2
          go_wp2_with fail
          go_ret3
          exact ⟨retB_bad (HBAD.out (HBO.out.trans (by first | (simp [q3,q4];done) | (rw [q3,q4])))),(HBR.out.trans (hR2.mono HBR.out.size))⟩
         | true =>
          have HNK:Hid (∀ W,Calls Tryz.prog 51 #[.string (strL name)] W fun e w'=>e = .returned (.bool true) ∧ Below W.heap.size W w'):=Lib.hid fun W=>by have:=HNM.out W;rw [q4] at this;exact this
          go_wp2_with fail
          (with_reducible refine (HNK.out _).mono ?_)
          rintro e w2 ⟨rfl,hb2⟩
          have hR2:=(HR1.out _).trans (hb2.mono (HR1.out _).size)
          have f4:w2.cell? ⟨wr.heap.size,4,none⟩ = some (.slice A m c2):=by rw [cell_heap ((hb2.block wr.heap.size (by rw [(HN1.out _).2];omega)).trans (HN1.out _).1)];rfl
          have HAT:Hid (∀ W,Below w.heap.size w W → Calls Tryz.prog 52 #[.slice A m c2] W fun e w'=>e = .returned (.bool (attrsB none ats)) ∧ Below W.heap.size W w'):=Lib.hid fun W hW=>attrs9_any A m c2 ats W (HAA.out.1.below hW) HAA.out.2.1 HAA.out.2.2
          have HR2:=Lib.hid hR2
          clear hb2 hR2
          cases q5:attrsB none ats with
          | false =>
           rw [q5] at HAT
           go_wp2_with fail
           (with_reducible refine (HAT.out _ (HBR.out.trans (HR2.out.mono HBR.out.size))).mono ?_)
           rintro e w3 ⟨rfl,hb3⟩
           have hR3:=HR2.out.trans (hb3.mono HR2.out.size)
           clear hb3
           go_wp2_with fail
           go_ret3
           exact ⟨retB_bad (HBAD.out (HBO.out.trans (by first | (simp [q3,q4,q5];done) | (rw [q3,q4,q5])))),(HBR.out.trans (hR3.mono HBR.out.size))⟩
          | true =>
           rw [q5] at HAT
           go_wp2_with fail
           (with_reducible refine (HAT.out _ (HBR.out.trans (HR2.out.mono HBR.out.size))).mono ?_)
           rintro e w3 ⟨rfl,hb3⟩
           have hR3:=HR2.out.trans (hb3.mono HR2.out.size)
           have HOW3:Hid (w3.ownsRow w.heap.size 3 1 (.slice oa on oc) on (posC pos)):=Lib.hid (own_block HOR.out (fun j hj=>hR3.block j (HOR.out.lt j hj).2))
           have HB3:=Lib.hid (HBR.out.trans (hR3.mono HBR.out.size))
           clear hb3 hR3 f4
           go_wp2_with (at_builtin;go_must ((refine wpList_app w3 (by rfl) _ _ 66 (by rfl) w.heap.size 3 j0 (.int .i64 0) 1 8 Tryz.underlying66 hj hjz0 hjz1 hjz2 (by rfl) (by decide) (.slice oa on oc) on (posC pos) (by rfl) HOW3.out w3.heap.size rfl 1 [.int .i64 k] (by rfl) (by rfl) (by intro u hu;simp only [List.mem_cons,List.not_mem_nil,or_false] at hu;subst hu;rfl) honb (by decide) HB3.out.size (fun vO' w7 hown7 hap7=>?_))))
           have hb7:Below w.heap.size w w7:=(HB3.out.alloc HB3.out.size _).trans (hap7.below (by have:=HB3.out.size;simp;omega) (fun j hj=>(HOW3.out.lt j hj).1))
           have hst:=HBG.out.step0 HEK.out rfl (by rw [HBO.out,q3,q4,q5];simp)
           have hown8:w7.ownsRow w.heap.size 3 1 vO' (k :: pos).length (posC (k :: pos)):=by rw [posC_cons,List.length_cons,HPL.out];exact hown7
           have X:=Lib.hid (⟨hst,hown8⟩:_ ∧ _)
           clear hap7 hown7 hown8 hst
           go_wp2_with fail
           go_roundw
           case rel=>exact ⟨k + 1,num + 1,_,k :: pos,by go_num,rfl,by omega,by omega,by omega,hb7,X⟩
           case measure=>simp [intOf];omega
        | false =>
         rw [q3] at HTE
         have hte:=HTE.out
         go_wp2_with fail
         go_ret3
         exact ⟨retB_bad (HBAD.out (HBO.out.trans (by first | (simp [q3];done) | (rw [q3])))),(HBR.out.trans ((HR1.out _).mono HBR.out.size))⟩
       ·have t2:(dep != (on:Int) + 1) = true:=by simpa using q2
        rw [decide_eq_false q2] at HBO
        clear q2
        go_wp2_with fail
        go_ret3
        exact ⟨retB_bad (HBAD.out (HBO.out.trans (by first | (simp [];done)))),(HBR.out.trans ((HR1.out _).mono HBR.out.size))⟩
      ·have t1:(num != nx) = true:=by simpa using q1
       rw [decide_eq_false q1] at HBO
       clear q1
       go_wp2_with fail
       go_ret3
       exact ⟨retB_bad (HBAD.out (HBO.out.trans (by first | (simp [];done)))),(HBR.out.trans ((HR1.out _).mono HBR.out.size))⟩
     ·have k0b:(kd == 0) = false:=by simpa using k0
      by_cases k1:kd = 1
      ·subst k1
       have hdec1:decide (s.opn ≠ []) = true:=decide_eq_true (fun h=>by have:=HON.out;rw [h] at this;simp at this;omega)
       obtain ⟨j,hjk⟩:∃ j,k = j + 1:=⟨k - 1,by omega⟩
       have hjl:j < evs.length:=by have:=HN.out;omega
       obtain ⟨ej,hej,htj⟩:=HBG.out.text j hjk
       have heje:evs[j] = ej:=by rw [List.getElem?_eq_getElem hjl] at hej;exact Option.some.inj hej
       obtain ⟨b3,o3,A3,m3,c3,hb3e,_,_,_,hcells3⟩:=HE.out.at8 j hjl
       injection hb3e with hb3e
       injection hb3e with hb3e ho3e
       subst hb3e ho3e
       rw [heje] at hcells3
       obtain ⟨pk,hpk⟩:∃ pk,pk = ej.kind:=⟨_,rfl⟩
       have HJ:=Lib.hid (⟨hjk,hpk,by rw [htj,hpk],fun W hW=>by rw [hpk];exact (hcells3 W hW).1⟩:k = j + 1 ∧ pk = ej.kind ∧ s.text = (pk == 1) ∧ ∀ W,Below w.heap.size w W → W.cell? ⟨b,o + j * 8,none⟩ = some (.int .i64 pk))
       have HJB:Hid ((0:Int) ≤ (j:Int) ∧ (j:Int) < (n:Int) ∧ IntKind.i64.wrap ((k:Int) - 1) = (j:Int)):=Lib.hid ⟨by omega,by omega,by rw [IntWalk.i64_in _ (by omega)];omega⟩
       clear hcells3 heje hej htj hpk hjk
       have HBO:Hid (begOk s ⟨1,num,dep,name,ats,text,fr,tt⟩ = (decide (num = nx) && (decide (dep = (on:Int) + 1) && (name.isEmpty && (ats.isEmpty && (!text.isEmpty && (textsB text && !s.text))))))):=Lib.hid (by rw [begOk1,hdec1,Bool.true_and,HBG.out.nx,HON.out])
       by_cases q1:num = nx
       ·subst q1
        by_cases q2:dep = (on:Int) + 1
        ·subst q2
         cases q3:name.isEmpty with
         | false =>
          rw [q3] at HNE
          have hne:=HNE.out
          go_wp2_with fail
          go_ret3
          exact ⟨retB_bad (HBAD.out (HBO.out.trans (by first | (simp [q3];done) | (rw [q3])))),(HBR.out.trans ((HR1.out _).mono HBR.out.size))⟩
         | true =>
          rw [q3] at HNE
          have hne:=HNE.out
          by_cases q4:0 < m
          ·have hat:ats.isEmpty = false:=HME.out.2 q4
           go_wp2_with fail
           go_ret3
           exact ⟨retB_bad (HBAD.out (HBO.out.trans (by first | (simp [q3,hat];done) | (rw [q3,hat])))),(HBR.out.trans ((HR1.out _).mono HBR.out.size))⟩
          ·have hat:ats.isEmpty = true:=HME.out.1 (by omega)
           have q4b:m < 1:=by omega
           cases q5:text.isEmpty with
           | true =>
            rw [q5] at HTE
            have hte:=HTE.out
            go_wp2_with fail
            go_ret3
            exact ⟨retB_bad (HBAD.out (HBO.out.trans (by first | (simp [q3,hat,q5];done) | (rw [q3,hat,q5])))),(HBR.out.trans ((HR1.out _).mono HBR.out.size))⟩
           | false =>
            rw [q5] at HTE
            have hte:=HTE.out
            cases q6:textsB text with
            | false =>
             have HTK:Hid (∀ W,Calls Tryz.prog 53 #[.string (strL text)] W fun e w'=>e = .returned (.bool false) ∧ Below W.heap.size W w'):=Lib.hid fun W=>by have:=HTX.out W;rw [q6] at this;exact this
             go_wp2_with fail
             (with_reducible refine (HTK.out _).mono ?_)
             rintro e w2 ⟨rfl,hb2⟩
             have hR2:=(HR1.out _).trans (hb2.mono (HR1.out _).size)
             clear hb2
             go_wp2_with fail
             go_ret3
             exact ⟨retB_bad (HBAD.out (HBO.out.trans (by first | (simp [q3,hat,q5,q6];done) | (rw [q3,hat,q5,q6])))),(HBR.out.trans (hR2.mono HBR.out.size))⟩
            | true =>
             have HTK:Hid (∀ W,Calls Tryz.prog 53 #[.string (strL text)] W fun e w'=>e = .returned (.bool true) ∧ Below W.heap.size W w'):=Lib.hid fun W=>by have:=HTX.out W;rw [q6] at this;exact this
             skip
             go_wp2_with fail
             (with_reducible refine (HTK.out _).mono ?_)
             rintro e w2 ⟨rfl,hb2⟩
             have hR2:=(HR1.out _).trans (hb2.mono (HR1.out _).size)
             have HB2:=Lib.hid (HBR.out.trans (hR2.mono HBR.out.size))
             have HOW2:Hid (w2.ownsRow w.heap.size 3 1 (.slice oa on oc) on (posC pos)):=Lib.hid (own_block HOR.out (fun j hj=>hR2.block j (HOR.out.lt j hj).2))
             clear hb2 hR2
             have f0:=(HJ.out.2.2.2 w2 HB2.out)
             obtain ⟨i1,i2,ew⟩:=HJB.out
             by_cases q7:pk = 1
             ·subst q7
              have hst:s.text = true:=by rw [HJ.out.2.2.1];rfl
              go_wp2_with fail
              go_ret3
              exact ⟨retB_bad (HBAD.out (HBO.out.trans (by first | (simp [q3,hat,q5,q6,hst];done) | (rw [q3,hat,q5,q6,hst])))),HB2.out⟩
             ·have q7b:(pk == 1) = false:=by simpa using q7
              have hst:s.text = false:=by rw [HJ.out.2.2.1];exact q7b
              clear q7
              go_wp2_with fail
              have hst:=HBG.out.step1 HEK.out rfl (by rw [HBO.out,q3,hat,q5,q6,hst];simp)
              have hown8:w2.ownsRow w.heap.size 3 1 (.slice oa on oc) pos.length (posC pos):=by rw [HPL.out];exact HOW2.out
              have X:=Lib.hid (⟨hst,hown8⟩:_ ∧ _)
              have hb7:=HB2.out
              clear hown8 hst
              go_roundw
              case rel=>exact ⟨k + 1,num + 1,_,pos,by go_num,rfl,by omega,by omega,by omega,hb7,X⟩
              case measure=>simp [intOf];omega
        ·have t2:(dep != (on:Int) + 1) = true:=by simpa using q2
         rw [decide_eq_false q2] at HBO
         clear q2
         go_wp2_with fail
         go_ret3
         exact ⟨retB_bad (HBAD.out (HBO.out.trans (by first | (simp [];done)))),(HBR.out.trans ((HR1.out _).mono HBR.out.size))⟩
       ·have t1:(num != nx) = true:=by simpa using q1
        rw [decide_eq_false q1] at HBO
        clear q1
        go_wp2_with fail
        go_ret3
        exact ⟨retB_bad (HBAD.out (HBO.out.trans (by first | (simp [];done)))),(HBR.out.trans ((HR1.out _).mono HBR.out.size))⟩
      ·have k1b:(kd == 1) = false:=by simpa using k1
       by_cases k2:kd = 2
       ·subst k2
        have HBO:Hid (begOk s ⟨2,num,dep,name,ats,text,fr,tt⟩ = (text.isEmpty && (ats.isEmpty && decide (s.opn.head? = some (num,dep,name))))):=Lib.hid (by rw [begOk2])
        cases q5:text.isEmpty with
        | false =>
         rw [q5] at HTE
         have hte:=HTE.out
         go_wp2_with fail
         go_ret3
         exact ⟨retB_bad (HBAD.out (HBO.out.trans (by first | (simp [q5];done) | (rw [q5])))),(HBR.out.trans ((HR1.out _).mono HBR.out.size))⟩
        | true =>
         rw [q5] at HTE
         have hte:=HTE.out
         by_cases q4:0 < m
         ·have hat:ats.isEmpty = false:=HME.out.2 q4
          go_wp2_with fail
          go_ret3
          exact ⟨retB_bad (HBAD.out (HBO.out.trans (by first | (simp [q5,hat];done) | (rw [q5,hat])))),(HBR.out.trans ((HR1.out _).mono HBR.out.size))⟩
         ·have hat:ats.isEmpty = true:=HME.out.1 (by omega)
          have q4b:m < 1:=by omega
          rw [q5,hat,Bool.true_and,Bool.true_and] at HBO
          obtain ⟨pp,ps,hps⟩:∃ pp ps,pos = pp :: ps:=by
           cases pos with
           | nil=>have:=HPL.out;simp at this;omega
           | cons a r=>exact ⟨a,r,rfl⟩
          subst hps
          obtain ⟨et,het,hhd⟩:=HBG.out.top
          have hql:ps.length + 1 = on:=HPL.out
          obtain ⟨q,hq⟩:∃ q,q = ps.length:=⟨_,rfl⟩
          obtain ⟨go,goc,hgo,hgoc,_,hgow,_,hgcell⟩:=own_some (n:=q) (by rw [hq,hql];exact HOR.out)
          have hoa:oa = some ⟨go,0,none⟩:=by injection hgo
          have hocc:oc = goc:=by injection hgo
          subst hoa hocc
          have hpl:pp < evs.length:=get_lt het
          obtain ⟨b3,o3,A3,m3,c3,hb3e,_,_,_,hcells3⟩:=HE.out.at8 pp hpl
          injection hb3e with hb3e
          injection hb3e with hb3e ho3e
          subst hb3e ho3e
          have hete:evs[pp] = et:=by rw [List.getElem?_eq_getElem hpl] at het;exact Option.some.inj het
          rw [hete] at hcells3
          have HC3:=Lib.hid hcells3
          have HTOPC:Hid (wr.cell? ⟨go,q,none⟩ = some (.int .i64 pp)):=Lib.hid (hgcell _ _ (by rw [hq];exact posC_top pp ps))
          have HHD:=Lib.hid hhd
          have HPL2:=Lib.hid (⟨hql,hq,hgow⟩:_ ∧ _ ∧ _)
          have ew:IntKind.i64.wrap ((on:Int) - 1) = (q:Int):=by rw [IntWalk.i64_in _ (by omega)];omega
          have i1:(0:Int) ≤ (q:Int):=by omega
          have i2:(q:Int) < (on:Int):=by omega
          have i3:(0:Int) ≤ (pp:Int):=by omega
          have i4:(pp:Int) < (n:Int):=by have:=HN.out;omega
          have y1:∀ o,(wr.alloc o).cell? ⟨go,q,none⟩ = some (.int .i64 pp):=fun o=>((HR1.out o).cell (p:=⟨go,q,none⟩) hgow).trans HTOPC.out
          obtain ⟨kt,nt,dt,nmt,atst,textt,frt,ttt⟩:=et
          simp only at *
          have z:=fun o=>HC3.out (wr.alloc o) (HBR.out.trans ((HR1.out o).mono HBR.out.size))
          have z0:=fun o=>(z o).1
          have z1:=fun o=>(z o).2.1
          have z2:=fun o=>(z o).2.2.1
          have z3:=fun o=>(z o).2.2.2.1
          have z4:=fun o=>(z o).2.2.2.2.1
          have z5:=fun o=>(z o).2.2.2.2.2.1
          have z6:=fun o=>(z o).2.2.2.2.2.2.1
          have z7:=fun o=>(z o).2.2.2.2.2.2.2
          clear z hete hcells3 hgcell hhd hql hq het hgo hgow
          have HRR:Hid (∀ o o',Below wr.heap.size wr ((wr.alloc o).alloc o')):=Lib.hid fun o o'=>(HR1.out o).alloc (by simp) o'
          by_cases q1:num = nt
          ·subst q1
           by_cases q2:dep = dt
           ·subst q2
            by_cases q3:name = nmt
            ·subst q3
             have hcm:((strL name).toList == (strL name).toList) = true:=by simp
             go_wp2_with fail
             have hst:=HBG.out.step2 HEK.out rfl (by rw [HBO.out,HHD.out];simp)
             have hb7:=HBR.out.trans ((HRR.out (.cells #[.int .i64 2,.int .i64 num,.int .i64 dep,.string (strL name),.slice A m c2,.string (strL text),.int .i64 fr,.int .i64 tt] 47) (.cells #[.int .i64 kt,.int .i64 num,.int .i64 dep,.string (strL name),.slice A3 m3 c3,.string (strL textt),.int .i64 frt,.int .i64 ttt] 47)).mono HBR.out.size)
             have hown8:((wr.alloc (.cells #[.int .i64 2,.int .i64 num,.int .i64 dep,.string (strL name),.slice A m c2,.string (strL text),.int .i64 fr,.int .i64 tt] 47)).alloc (.cells #[.int .i64 kt,.int .i64 num,.int .i64 dep,.string (strL name),.slice A3 m3 c3,.string (strL textt),.int .i64 frt,.int .i64 ttt] 47)).ownsRow w.heap.size 3 1 (.slice (some ⟨go,0,none⟩) q oc) ps.length (posC ps):=by
              have h0:=own_block HOR.out (fun j hj=>(HRR.out (.cells #[.int .i64 2,.int .i64 num,.int .i64 dep,.string (strL name),.slice A m c2,.string (strL text),.int .i64 fr,.int .i64 tt] 47) (.cells #[.int .i64 kt,.int .i64 num,.int .i64 dep,.string (strL name),.slice A3 m3 c3,.string (strL textt),.int .i64 frt,.int .i64 ttt] 47)).block j (HOR.out.lt j hj).2)
              rw [posC_cons,← HPL2.out.1] at h0
              rw [HPL2.out.2.1]
              exact own_pop h0 (by rw [posC_length];omega)
             have X:=Lib.hid (⟨hst,hown8⟩:_ ∧ _)
             clear hown8 hst
             go_roundw
             case rel=>exact ⟨k + 1,nx,_,ps,by go_num,rfl,by omega,by omega,by omega,hb7,X⟩
             case measure=>simp [intOf];omega
            ·have hcm:((strL name).toList == (strL nmt).toList) = false:=cmpU_ne q3
             go_wp2_with fail
             go_ret3
             exact ⟨retB_bad (HBAD.out (HBO.out.trans (by first | (simp [HHD.out,decide_eq_false (by simp [Ne.symm q3])];done) | (rw [HHD.out,decide_eq_false (by simp [Ne.symm q3])])))),(HBR.out.trans ((HRR.out _ _).mono HBR.out.size))⟩
           ·have t2:(dep != dt) = true:=by simpa using q2
            go_wp2_with fail
            go_ret3
            exact ⟨retB_bad (HBAD.out (HBO.out.trans (by first | (simp [HHD.out,decide_eq_false (by simp [Ne.symm q2])];done) | (rw [HHD.out,decide_eq_false (by simp [Ne.symm q2])])))),(HBR.out.trans ((HRR.out _ _).mono HBR.out.size))⟩
          ·have t1:(num != nt) = true:=by simpa using q1
           go_wp2_with fail
           go_ret3
           exact ⟨retB_bad (HBAD.out (HBO.out.trans (by first | (simp [HHD.out,decide_eq_false (by simp [Ne.symm q1])];done) | (rw [HHD.out,decide_eq_false (by simp [Ne.symm q1])])))),(HBR.out.trans ((HRR.out _ _).mono HBR.out.size))⟩
       ·have k2b:(kd == 2) = false:=by simpa using k2
        have HBO:Hid (begOk s ⟨kd,num,dep,name,ats,text,fr,tt⟩ = false):=Lib.hid (begOk3 _ _ k0 k1 k2)
        go_wp2_with fail
        go_ret3
        exact ⟨retB_bad (HBAD.out (HBO.out.trans (by first | (simp [];done)))),(HBR.out.trans ((HR1.out _).mono HBR.out.size))⟩
  ·have hk2:k = n:=by omega
   subst hk2
   have htk:evs.take k = evs:=List.take_of_length_le (by rw [HN.out];exact Nat.le_refl _)
   have hall:=HBG.out.all
   rw [htk] at hall
   have HR:Hid (begR evs = (true,(on:Int),decide (evs ≠ [] ∧ s.opn = []))):=Lib.hid (by rw [begR_all hall,HON.out])
   have HD:Hid (decide (evs ≠ [] ∧ s.opn = []) = (decide (0 < k) && ((on:Int) == 0))):=Lib.hid (by
    rw [dec_and]
    congr 1
    ·rw [decide_eq_decide,HN.out];exact List.length_pos_iff.symm
    ·rw [← HON.out]
     cases s.opn with
     | nil=>simp
     | cons x xs=>simp;omega)
   clear hall htk
   by_cases hk0:k < 1
   ·go_wp2_with fail
    go_ret3
    exact ⟨by rw [HR.out,HD.out,decide_eq_false (by omega)];rfl,HBR.out⟩
   ·have hk1:0 < k:=by omega
    go_wp2_with fail
    go_ret3
    exact ⟨by rw [HR.out,HD.out,decide_eq_true hk1,Bool.true_and];rfl,HBR.out⟩
end Go.Proofs.YtgjokdngbocehaaGreatDoor
namespace Go.Proofs.YtgjokdngbocehaaGreatDoor
open Go.RowKit
theorem evSmQH (e:Ev) (h:wtE e ≤ 1048576):EvSm e:=by
 unfold wtE at h
 have hA:∀ (l:List (List UInt8 × List UInt8)),l.length ≤ wtA l ∧ ∀ p ∈ l,p.1.length ≤ wtA l ∧ p.2.length ≤ wtA l:=by
  intro l
  induction l with
  | nil=>exact ⟨Nat.le_refl _,fun p hp=>by cases hp⟩
  | cons x r ih =>
   obtain ⟨h1,h2⟩:=ih
   have e:wtA (x :: r) = x.1.length + x.2.length + 1 + wtA r:=by unfold wtA;simp
   refine ⟨by simp;omega,fun p hp=>?_⟩
   rcases List.mem_cons.1 hp with rfl | hp
   ·omega
   ·have:=h2 p hp;omega
 obtain ⟨h1,h2⟩:=hA e.ats
 exact ⟨by omega,by omega,by omega,fun p hp=>by have:=h2 p hp;omega⟩
theorem evsSmH {evs:List Ev} (h:wtEs evs ≤ 1048576):∀ e ∈ evs,EvSm e:=fun e he=>by
 obtain ⟨i,hi,rfl⟩:=List.getElem_of_mem he
 exact evSmQH _ (Nat.le_trans (wtEs_mem evs i hi) h)
end Go.Proofs.YtgjokdngbocehaaGreatDoor
namespace Go.Proofs.YtgjokdngbocehaaGreatDoor
open Go.RowKit
theorem w64_eq (x:Int):Go.RowKit.wrap64 x = IntKind.i64.wrap x:=by rw [IntKind.wrap_i64];unfold Go.RowKit.wrap64;rfl
def capL {α:Type} (B:Int) (h:α → Int → Int):Int → List α → Int
 | n,[]=>n
 | n,x :: r=>if n ≤ B then capL B h (h x n) r else n
theorem capL_stop {α:Type} {B:Int} {h:α → Int → Int} {n:Int} (hn:B < n) (l:List α):capL B h n l = n:=by
 cases l with
 | nil=>rfl
 | cons x r=>exact if_neg (by omega)
theorem capL_cons {α:Type} {B:Int} {h:α → Int → Int} {n:Int} (hn:n ≤ B) (x:α) (r:List α):capL B h n (x :: r) = capL B h (h x n) r:=if_pos hn
def wtS (g:Int → List PX → Int) (d:Int) (s:PS) (n:Int):Int:=IntKind.i64.wrap (n + g (IntKind.i64.wrap (d + 1)) s.wher)
def wtN (g:Int → List PX → Int) (d:Int) (ss:List PS):Int:=if 12 < d then 1000 else capL 60 (wtS g d) ss.length ss
def exS (g:Int → List PX → Int) (d:Int) (x:PX) (n:Int):Int:=IntKind.i64.wrap (n + IntKind.i64.wrap (g (IntKind.i64.wrap (d + 1)) x.args + wtN g (IntKind.i64.wrap (d + 1)) x.path))
def exN:Nat → Int → List PX → Int
 | 0,d,l=>if 12 < d then 1000 else l.length
 | f + 1,d,l=>if 12 < d then 1000 else capL 60 (exS (exN f) d) l.length l
def WtX (f:Nat):Prop:=∀ (a:Option Addr) (c:Nat) (ss:List PS) (d:Int) (W:World),SsAt f W a ss → ss.length ≤ 1048576 →
 Calls Tryz.prog 27 #[.slice a ss.length c,.int .i64 d] W fun e w'=>e = .returned (.int .i64 (wtN (exN f) d ss)) ∧ Below W.heap.size W w'
def ExX (f:Nat):Prop:=∀ (a:Option Addr) (c:Nat) (l:List PX) (d:Int) (W:World),XsAt f W a l → l.length ≤ 1048576 →
 Calls Tryz.prog 47 #[.slice a l.length c,.int .i64 d] W fun e w'=>e = .returned (.int .i64 (exN f d l)) ∧ Below W.heap.size W w'
set_option maxRecDepth 100000 in
set_option maxHeartbeats 4000000 in
theorem weight_of {f:Nat} (HL:ExX f):WtX f:=fun a c ss d w hs hn=>by
 have HS:=Lib.hid hs
 have HLL:=Lib.hid HL
 obtain ⟨R,hR⟩:∃ R,wtN (exN f) d ss = R:=⟨_,rfl⟩
 rw [hR]
 unfold wtN at hR
 by_cases hd:12 < d
 ·rw [if_pos hd] at hR
  have HR:=Lib.hid hR
  clear hs HL hR HS HLL
  generalize ss.length = n at *
  go_enter Tryz.func27,Tryz.ntmps27
  go_wp2_with fail
  go_ret
  exact ⟨ret_int HR.out,Below.refl _ _⟩
 rw [if_neg hd] at hR
 have hd':d ≤ 12:=by omega
 have HR:=Lib.hid hR
 clear hs HL hR hd
 obtain ⟨n,hm⟩:∃ n,ss.length = n:=⟨_,rfl⟩
 rw [hm] at hn HR ⊢
 have HM:=Lib.hid hm
 clear hm
 go_enter Tryz.func27,Tryz.ntmps27
 go_wp2_with fail
 go_loopw [5,6] (fun kv iv wr=>∃ (i:Nat) (r:Int),iv = .int .i64 i ∧ kv = .int .i64 r ∧ i ≤ n ∧ Hid (capL 60 (wtS (exN f) d) r (ss.drop i) = R ∧ Below w.heap.size w wr)) (fun _ iv _=>n - (intOf iv).toNat)
 case atStart=>exact ⟨0,n,rfl,rfl,Nat.zero_le _,Lib.hid ⟨by rw [List.drop_zero];exact HR.out,Below.refl _ _⟩⟩
 case round =>
  obtain ⟨i,r,rfl,rfl,hin,HB⟩:=hrel
  by_cases hi:i < n
  ·have i1:(0:Int) ≤ (i:Int):=by omega
   have i2:(i:Int) < (n:Int):=by omega
   have ewi:IntKind.i64.wrap ((i:Int) + 1) = (i:Int) + 1:=IntWalk.i64_in _ (by omega)
   by_cases hr:r ≤ 60
   ·have hil:i < ss.length:=by rw [HM.out];exact hi
    obtain ⟨b,o,wa,wc,rfl,hb,hx,h4,h5,h6,h7,h8,hcs⟩:=HS.out.get i hil
    have HCS:Hid (∀ W,Below w.heap.size w W → W.cell? ⟨b,o + i * 4 + 3,none⟩ = some (.slice wa ss[i].wher.length wc)):=Lib.hid fun W hW=>(hcs W hW).2.2.2
    have HRL:Hid (∀ W q,Below w.heap.size w W → Calls Tryz.prog 47 #[.slice wa ss[i].wher.length wc,.int .i64 q] W fun e w'=>e = .returned (.int .i64 (exN f q ss[i].wher)) ∧ Below W.heap.size W w'):=Lib.hid fun W q hW=>HLL.out wa wc ss[i].wher q W (XsAt.below hx hW) h8
    have HNX:Hid (capL 60 (wtS (exN f) d) (IntKind.i64.wrap (r + exN f (IntKind.i64.wrap (d + 1)) ss[i].wher)) (ss.drop (i + 1)) = R):=Lib.hid (by
     have:=HB.out.1
     rw [List.drop_eq_getElem_cons hil,capL_cons hr] at this
     exact this)
    clear hcs hx h4 h5 h6 h7 h8 hb
    generalize hnew:exN f (IntKind.i64.wrap (d + 1)) ss[i].wher = z at *
    have HNEW:=Lib.hid hnew
    clear hnew
    generalize ss[i].wher = wl at *
    generalize hwl:wl.length = wn at *
    clear hwl
    generalize hdd:IntKind.i64.wrap (d + 1) = dd at *
    have c3:=HCS.out _ HB.out.2
    go_wp2_with fail
    (with_reducible refine (HRL.out _ dd HB.out.2).mono ?_)
    rintro e w2 ⟨rfl,hb2⟩
    rw [HNEW.out]
    have HB2:=Lib.hid (HB.out.2.trans (hb2.mono HB.out.2.size))
    clear hb2
    go_wp2_with fail
    go_roundw
    case rel=>exact ⟨i + 1,_,by go_num,rfl,by omega,Lib.hid ⟨(by rw [w64_eq];exact HNX.out),HB2.out⟩⟩
    case measure=>simp [intOf];omega
   ·have hr':60 < r:=by omega
    have HE:Hid (r = R):=Lib.hid (by rw [← HB.out.1,capL_stop hr'])
    go_wp2_with fail
    go_ret
    exact ⟨ret_int HE.out,HB.out.2⟩
  ·have i4:(n:Int) ≤ (i:Int):=by omega
   have HE:Hid (r = R):=Lib.hid (by rw [← HB.out.1,List.drop_of_length_le (by rw [HM.out];omega)];rfl)
   go_wp2_with fail
   go_ret
   exact ⟨ret_int HE.out,HB.out.2⟩
set_option maxRecDepth 100000 in
set_option maxHeartbeats 4000000 in
theorem exprs_big (f:Nat) (a:Option Addr) (c:Nat) (l:List PX) (d:Int) (w:World) (hd:12 < d) :
  Calls Tryz.prog 47 #[.slice a l.length c,.int .i64 d] w fun e w'=>e = .returned (.int .i64 (exN f d l)) ∧ Below w.heap.size w w':=by
 have hR:exN f d l = 1000:=by cases f <;> exact if_pos hd
 rw [hR]
 clear hR
 generalize l.length = n at *
 go_enter Tryz.func47,Tryz.ntmps47
 go_wp2_with fail
 go_ret
 exact ⟨rfl,Below.refl _ _⟩
set_option maxRecDepth 100000 in
set_option maxHeartbeats 4000000 in
theorem exprs_of {f:Nat} (HL:ExX f) (HW:WtX f):ExX (f + 1):=fun a c l d w hs hn=>by
 by_cases hd:12 < d
 ·exact exprs_big _ a c l d w hd
 have HS:=Lib.hid hs
 have HLL:=Lib.hid HL
 have HWW:=Lib.hid HW
 obtain ⟨R,hR⟩:∃ R,exN (f + 1) d l = R:=⟨_,rfl⟩
 rw [hR]
 have hR':capL 60 (exS (exN f) d) l.length l = R:=(if_neg hd).symm.trans hR
 have hd':d ≤ 12:=by omega
 have HR:=Lib.hid hR'
 clear hs HL HW hR hR' hd
 obtain ⟨n,hm⟩:∃ n,l.length = n:=⟨_,rfl⟩
 rw [hm] at hn HR ⊢
 have HM:=Lib.hid hm
 clear hm
 go_enter Tryz.func47,Tryz.ntmps47
 go_wp2_with fail
 go_loopw [5,6] (fun kv iv wr=>∃ (i:Nat) (r:Int),iv = .int .i64 i ∧ kv = .int .i64 r ∧ i ≤ n ∧ Hid (capL 60 (exS (exN f) d) r (l.drop i) = R ∧ Below w.heap.size w wr)) (fun _ iv _=>n - (intOf iv).toNat)
 case atStart=>exact ⟨0,n,rfl,rfl,Nat.zero_le _,Lib.hid ⟨by rw [List.drop_zero];exact HR.out,Below.refl _ _⟩⟩
 case round =>
  obtain ⟨i,r,rfl,rfl,hin,HB⟩:=hrel
  by_cases hi:i < n
  ·have i1:(0:Int) ≤ (i:Int):=by omega
   have i2:(i:Int) < (n:Int):=by omega
   have ewi:IntKind.i64.wrap ((i:Int) + 1) = (i:Int) + 1:=IntWalk.i64_in _ (by omega)
   by_cases hr:r ≤ 60
   ·have hil:i < l.length:=by rw [HM.out];exact hi
    obtain ⟨b,o,xa,xc,xp,xd,rfl,hb,hxa,hxp,h4,h5,h6,h7,h8,h9,h10,h11,h12,hcs⟩:=HS.out.get i hil
    have HCS:Hid (∀ W,Below w.heap.size w W → W.cell? ⟨b,o + i * 7 + 1,none⟩ = some (.slice xa l[i].args.length xc) ∧ W.cell? ⟨b,o + i * 7 + 2,none⟩ = some (.slice xp l[i].path.length xd) ∧ Below w.heap.size w W):=Lib.hid fun W hW=>⟨(hcs W hW).2.1,(hcs W hW).2.2.1,hW⟩
    have HRL:Hid (∀ W q,Below w.heap.size w W → Calls Tryz.prog 47 #[.slice xa l[i].args.length xc,.int .i64 q] W fun e w'=>e = .returned (.int .i64 (exN f q l[i].args)) ∧ Below W.heap.size W w'):=Lib.hid fun W q hW=>HLL.out xa xc l[i].args q W (XsAt.below hxa hW) h11
    have HRX:Hid (∀ W q,Below w.heap.size w W → Calls Tryz.prog 27 #[.slice xp l[i].path.length xd,.int .i64 q] W fun e w'=>e = .returned (.int .i64 (wtN (exN f) q l[i].path)) ∧ Below W.heap.size W w'):=Lib.hid fun W q hW=>HWW.out xp xd l[i].path q W (SsAt.below hxp hW) h12
    have HNX:Hid (capL 60 (exS (exN f) d) (IntKind.i64.wrap (r + IntKind.i64.wrap (exN f (IntKind.i64.wrap (d + 1)) l[i].args + wtN (exN f) (IntKind.i64.wrap (d + 1)) l[i].path))) (l.drop (i + 1)) = R):=Lib.hid (by
     have:=HB.out.1
     rw [List.drop_eq_getElem_cons hil,capL_cons hr] at this
     exact this)
    clear hcs hxa hxp h4 h5 h6 h7 h8 h9 h10 h11 h12 hb
    obtain ⟨dd,hdd⟩:∃ dd,IntKind.i64.wrap (d + 1) = dd:=⟨_,rfl⟩
    rw [hdd] at HNX
    have HRL2:Hid (∀ W,Below w.heap.size w W → Calls Tryz.prog 47 #[.slice xa l[i].args.length xc,.int .i64 dd] W fun e w'=>e = .returned (.int .i64 (exN f dd l[i].args)) ∧ Below w.heap.size w w'):=Lib.hid fun W hW=>(HRL.out W dd hW).mono fun e w' ⟨h1,h2⟩=>⟨h1,hW.trans (h2.mono hW.size)⟩
    have HRX2:Hid (∀ W,Below w.heap.size w W → Calls Tryz.prog 27 #[.slice xp l[i].path.length xd,.int .i64 dd] W fun e w'=>e = .returned (.int .i64 (wtN (exN f) dd l[i].path)) ∧ Below w.heap.size w w'):=Lib.hid fun W hW=>(HRX.out W dd hW).mono fun e w' ⟨h1,h2⟩=>⟨h1,hW.trans (h2.mono hW.size)⟩
    clear HRL HRX
    generalize exN f dd l[i].args = z1 at *
    generalize wtN (exN f) dd l[i].path = z2 at *
    generalize l[i].args.length = xl at *
    generalize l[i].path.length = pl at *
    have HBD:=Lib.hid (HB.out.2.drew)
    have hbd:=HBD.out
    obtain ⟨c1,c2,_⟩:=HCS.out _ hbd
    go_wp2_with fail
    go_region_held3 (fun w'=>w'.cell? ⟨b,o + i * 7 + 1,none⟩ = some (.slice xa xl xc) ∧ w'.cell? ⟨b,o + i * 7 + 2,none⟩ = some (.slice xp pl xd) ∧ Below w.heap.size w w') (first | exact HCS.out _ hbd | exact HCS.out _ ‹_›) (first | (go_at_call 47;(with_reducible refine (HRL2.out _ ‹_›).mono ?_);rintro e w5 ⟨rfl,hb5⟩) | (go_at_call 27;(with_reducible refine (HRX2.out _ ‹_›).mono ?_);rintro e w7 ⟨rfl,hb7⟩))
    have HB8:=Lib.hid hb7
    clear hb5 hb7
    go_wp2_with fail
    go_roundw
    case rel=>exact ⟨i + 1,_,by go_num,rfl,by omega,Lib.hid ⟨HNX.out,HB8.out⟩⟩
    case measure=>simp [intOf];omega
   ·have hr':60 < r:=by omega
    have HE:Hid (r = R):=Lib.hid (by rw [← HB.out.1,capL_stop hr'])
    go_wp2_with fail
    go_ret
    exact ⟨ret_int HE.out,HB.out.2⟩
  ·have i4:(n:Int) ≤ (i:Int):=by omega
   have HE:Hid (r = R):=Lib.hid (by rw [← HB.out.1,List.drop_of_length_le (by rw [HM.out];omega)];rfl)
   go_wp2_with fail
   go_ret
   exact ⟨ret_int HE.out,HB.out.2⟩
set_option maxRecDepth 100000 in
set_option maxHeartbeats 4000000 in
theorem exprs_zero:ExX 0:=fun a c l d w hs hn=>by
 by_cases hd:12 < d
 ·exact exprs_big _ a c l d w hd
 obtain rfl:l = []:=XsAt.zero hs
 have hR:exN 0 d [] = 0:=if_neg hd
 rw [hR,show ([]:List PX).length = 0 from rfl]
 have hd':d ≤ 12:=by omega
 clear hs hn hd hR
 go_enter Tryz.func47,Tryz.ntmps47
 go_wp2_with fail
 go_loopw [5,6] (fun kv iv wr=>iv = .int .i64 0 ∧ kv = .int .i64 0 ∧ Hid (Below w.heap.size w wr)) (fun _ _ _=>0)
 case atStart=>exact ⟨rfl,rfl,Lib.hid (Below.refl _ _)⟩
 case round =>
  obtain ⟨rfl,rfl,HB⟩:=hrel
  go_wp2_with fail
  go_ret
  exact ⟨rfl,HB.out⟩
theorem exprs_all:∀ f,ExX f
 | 0=>exprs_zero
 | f + 1=>exprs_of (exprs_all f) (weight_of (exprs_all f))
theorem weight_all (f:Nat):WtX f:=weight_of (exprs_all f)
end Go.Proofs.YtgjokdngbocehaaGreatDoor
