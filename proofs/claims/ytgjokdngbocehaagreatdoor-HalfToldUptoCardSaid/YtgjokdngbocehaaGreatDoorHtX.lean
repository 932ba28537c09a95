/-
  gimletref09.Beginning.
-/
import Derived.Test.YtgjokdngbocehaaGreatDoorHtA
import Derived.Test.YtgjokdngbocehaaGreatDoorHtD
import Derived.Test.YtgjokdngbocehaaGreatDoorHtE
import Derived.Test.YtgjokdngbocehaaGreatDoorHtF
import Derived.Test.YtgjokdngbocehaaGreatDoorHtG
import Derived.Test.YtgjokdngbocehaaGreatDoorHtH
import Derived.Test.YtgjokdngbocehaaGreatDoorHtK
import Derived.Test.YtgjokdngbocehaaGreatDoorHtM
import Derived.Test.YtgjokdngbocehaaGreatDoorHtP
import Derived.Test.YtgjokdngbocehaaGreatDoorHtR
import Derived.Test.YtgjokdngbocehaaGreatDoorHtT
import Derived.Test.YtgjokdngbocehaaGreatDoorHtV
import Derived.Test.YtgjokdngbocehaaGreatDoorHtW
namespace Go.Proofs.YtgjokdngbocehaaGreatDoor
open Go.RowKit
set_option maxRecDepth 1000000 in
set_option maxHeartbeats 16000000 in
theorem begin_any (a:Option Addr) (n c:Nat) (evs:List Ev) (w:World) (hE:EvsAt w a n evs) (hn:n ≤ 1048576) (hsm:∀ e ∈ evs,EvSm e) :
  Calls Tryz.prog 30 #[.slice a n c] w fun e w'=>e = retB (begR evs) ∧ Below w.heap.size w w':=by
 obtain ⟨j0,hj,hjz0,hjz1,hjz2⟩:=info_parts infoInt
 have HE:=Lib.hid hE
 have HN:Hid (n = evs.length):=Lib.hid hE.1
 have HSM:=Lib.hid hsm
 clear hE hsm
 go_enter Tryz.func30,Tryz.ntmps30
 go_wp2_with fail
 go_loopw [5,6,7] (fun ov nv kv wr=>∃ (k:Nat) (nx:Int) (s:BegS) (pos:List Nat),kv = .int .i64 k ∧ nv = .int .i64 nx ∧ k ≤ n ∧ 0 ≤ nx ∧ nx ≤ k ∧ Below w.heap.size w wr ∧ Hid (BgInv evs k s nx pos ∧ wr.ownsRow w.heap.size 3 1 ov pos.length (posC pos))) (fun _ _ kv _=>n - (intOf kv).toNat)
 case atStart=>exact ⟨0,0,beg0,[],rfl,rfl,Nat.zero_le _,Int.le_refl _,Int.le_refl _,Below.refl _ _,Lib.hid ⟨⟨rfl,rfl,True.intro,fun j h=>by omega⟩,World.ownsRow_nil _ _ _ _⟩⟩
 case round =>
  obtain ⟨k,nx,s,pos,rfl,rfl,hk,hx0,hx1,hbr,hbg⟩:=hrel
  have HBG:=Lib.hid hbg.out.1
  have hor:=hbg.out.2
  obtain ⟨oa,oc,rfl,_,_,_⟩:=own_slice hor
  have hble:=beg_le _ _ _ HBG.out.all
  simp only [beg0,List.length_nil,List.length_take] at hble
  have hpl:=HBG.out.len
  obtain ⟨on,hon⟩:∃ on,pos.length = on:=⟨_,rfl⟩
  rw [hon] at hor hpl ⊢
  have HON:Hid (s.opn.length = on):=Lib.hid hpl.symm
  have HPL:=Lib.hid hon
  have honk:on ≤ k:=by omega
  have honb:on + 1 ≤ 4294967296:=by omega
  have HOR:=Lib.hid hor
  have HBR:=Lib.hid hbr
  clear hor hbr hbg hpl hon hble
  by_cases hkn:k < n
  ·have hkl:k < evs.length:=by rw [← HN.out];exact hkn
   have hcnt:=HBG.out.cnt (by omega)
   obtain ⟨b,o,A,m,c2,rfl,hb,hmc,hA,hcells⟩:=HE.out.at8 k hkl
   have hsmk:=HSM.out _ (List.getElem_mem hkl)
   have hek:evs[k]? = some evs[k]:=List.getElem?_eq_getElem hkl
   generalize evs[k] = e at *
   obtain ⟨kd,num,dep,name,ats,text,fr,tt⟩:=e
   obtain ⟨e0,e1,e2,e3,e4,e5,e6,e7⟩:=hcells wr HBR.out
   obtain ⟨sm1,sm2,sm3,sm4⟩:=hsmk
   simp only at e0 e1 e2 e3 e4 e5 e6 e7 hA sm1 sm2 sm3 sm4
   have HEK:=Lib.hid hek
   have HBAD:Hid (begOk s ⟨kd,num,dep,name,ats,text,fr,tt⟩ = false → begR evs = (false,0,false)):=Lib.hid fun h=>HBG.out.bad hek h
   have HNM:Hid (∀ W,Calls Tryz.prog 51 #[.string (strL name)] W fun e w'=>e = .returned (.bool (nameB name)) ∧ Below W.heap.size W w'):=Lib.hid fun W=>Name2_any name (by omega) W
   have HTX:Hid (∀ W,Calls Tryz.prog 53 #[.string (strL text)] W fun e w'=>e = .returned (.bool (textsB text)) ∧ Below W.heap.size W w'):=Lib.hid fun W=>Texts2_any text (by omega) W
   have HAA:=Lib.hid (⟨hA,sm4,by rw [hA.1];exact sm3⟩:AttrsAt w A m ats ∧ _ ∧ m ≤ 1048576)
   have HME:Hid ((m < 1 → ats.isEmpty = true) ∧ (0 < m → ats.isEmpty = false)):=Lib.hid (by
    have:=hA.1
    cases ats with
    | nil=>exact ⟨fun _=>rfl,fun h=>by simp at this;omega⟩
    | cons x r=>exact ⟨fun h=>by simp at this;omega,fun _=>rfl⟩)
   have hmb:m ≤ 1048576:=by rw [hA.1];exact sm3
   have HTE:Hid ((strL text).toList.isEmpty = text.isEmpty):=Lib.hid (strU_empty text)
   have HNE:Hid ((strL name).toList.isEmpty = name.isEmpty):=Lib.hid (strU_empty name)
   have HR1:Hid (∀ o,Below wr.heap.size wr (wr.alloc o)):=Lib.hid fun o=>(Below.refl _ _).alloc (Nat.le_refl _) o
   have HN1:Hid (∀ o,(wr.alloc o).heap[wr.heap.size]? = some o ∧ (wr.alloc o).heap.size = wr.heap.size + 1):=Lib.hid fun o=>⟨heap_alloc_new wr o,by simp⟩
   have HCNT:=Lib.hid hcnt
   clear hcells hA hek hmc hb sm1 sm2 sm3 sm4 hcnt
   by_cases hcl:0 < k ∧ on < 1
   ·obtain ⟨hk0,hon0⟩:=hcl
    have HBO:Hid (begOk s ⟨kd,num,dep,name,ats,text,fr,tt⟩ = false):=Lib.hid (begOk_closed _ _ (by rw [HCNT.out];omega) (List.eq_nil_of_length_eq_zero (by rw [HON.out];omega)))
    go_wp2_with fail
    go_ret3
    exact ⟨retB_bad (HBAD.out (HBO.out.trans (by first | (simp [];done)))),(HBR.out.trans ((HR1.out _).mono HBR.out.size))⟩
   ·by_cases hk0:k < 1
    ·have hon0:on < 1:=by omega
     by_cases k0:kd = 0
     ·subst k0
      have hdec:decide (s.cnt = 0 ∨ s.opn ≠ []) = true:=decide_eq_true (.inl (by rw [HCNT.out];omega))
      have HBO:Hid (begOk s ⟨0,num,dep,name,ats,text,fr,tt⟩ = (decide (num = nx) && (decide (dep = (on:Int) + 1) && (text.isEmpty && (nameB name && attrsB none ats))))):=Lib.hid (by rw [begOk0,hdec,Bool.true_and,HBG.out.nx,HON.out])
      clear hdec
      by_cases q1:num = nx
      ·subst q1
       by_cases q2:dep = (on:Int) + 1
       ·subst q2
        cases q3:text.isEmpty with
        | true =>
         rw [q3] at HTE
         have hte:=HTE.out
         cases q4:nameB name with
         | false =>
          have HNK:Hid (∀ W,Calls Tryz.prog 51 #[.string (strL name)] W fun e w'=>e = .returned (.bool false) ∧ Below W.heap.size W w'):=Lib.hid fun W=>by have:=HNM.out W;rw [q4] at this;exact this
          go_wp2_with fail
          (with_reducible refine (HNK.out _).mono ?_)
          rintro e w2 ⟨rfl,hb2⟩
          have hR2:=(HR1.out _).trans (hb2.mono (HR1.out _).size)
          clear hb2
          go_wp2_with fail
          go_ret3
          exact ⟨retB_bad (HBAD.out (HBO.out.trans (by first | (simp [q3,q4];done) | (rw [q3,q4])))),(HBR.out.trans (hR2.mono HBR.out.size))⟩
         | true =>
          have HNK:Hid (∀ W,Calls Tryz.prog 51 #[.string (strL name)] W fun e w'=>e = .returned (.bool true) ∧ Below W.heap.size W w'):=Lib.hid fun W=>by have:=HNM.out W;rw [q4] at this;exact this
          go_wp2_with fail
          (with_reducible refine (HNK.out _).mono ?_)
          rintro e w2 ⟨rfl,hb2⟩
          have hR2:=(HR1.out _).trans (hb2.mono (HR1.out _).size)
          have f4:w2.cell? ⟨wr.heap.size,4,none⟩ = some (.slice A m c2):=by rw [cell_heap ((hb2.block wr.heap.size (by rw [(HN1.out _).2];omega)).trans (HN1.out _).1)];rfl
          have HAT:Hid (∀ W,Below w.heap.size w W → Calls Tryz.prog 52 #[.slice A m c2] W fun e w'=>e = .returned (.bool (attrsB none ats)) ∧ Below W.heap.size W w'):=Lib.hid fun W hW=>attrs9_any A m c2 ats W (HAA.out.1.below hW) HAA.out.2.1 HAA.out.2.2
          have HR2:=Lib.hid hR2
          clear hb2 hR2
          cases q5:attrsB none ats with
          | false =>
           rw [q5] at HAT
           go_wp2_with fail
           (with_reducible refine (HAT.out _ (HBR.out.trans (HR2.out.mono HBR.out.size))).mono ?_)
           rintro e w3 ⟨rfl,hb3⟩
           have hR3:=HR2.out.trans (hb3.mono HR2.out.size)
           clear hb3
           go_wp2_with fail
           go_ret3
           exact ⟨retB_bad (HBAD.out (HBO.out.trans (by first | (simp [q3,q4,q5];done) | (rw [q3,q4,q5])))),(HBR.out.trans (hR3.mono HBR.out.size))⟩
          | true =>
           rw [q5] at HAT
           go_wp2_with fail
           (with_reducible refine (HAT.out _ (HBR.out.trans (HR2.out.mono HBR.out.size))).mono ?_)
           rintro e w3 ⟨rfl,hb3⟩
           have hR3:=HR2.out.trans (hb3.mono HR2.out.size)
           have HOW3:Hid (w3.ownsRow w.heap.size 3 1 (.slice oa on oc) on (posC pos)):=Lib.hid (own_block HOR.out (fun j hj=>hR3.block j (HOR.out.lt j hj).2))
           have HB3:=Lib.hid (HBR.out.trans (hR3.mono HBR.out.size))
           clear hb3 hR3 f4
           go_wp2_with (at_builtin;go_must ((refine wpList_app w3 (by rfl) _ _ 66 (by rfl) w.heap.size 3 j0 (.int .i64 0) 1 8 Tryz.underlying66 hj hjz0 hjz1 hjz2 (by rfl) (by decide) (.slice oa on oc) on (posC pos) (by rfl) HOW3.out w3.heap.size rfl 1 [.int .i64 k] (by rfl) (by rfl) (by intro u hu;simp only [List.mem_cons,List.not_mem_nil,or_false] at hu;subst hu;rfl) honb (by decide) HB3.out.size (fun vO' w7 hown7 hap7=>?_))))
           have hb7:Below w.heap.size w w7:=(HB3.out.alloc HB3.out.size _).trans (hap7.below (by have:=HB3.out.size;simp;omega) (fun j hj=>(HOW3.out.lt j hj).1))
           have hst:=HBG.out.step0 HEK.out rfl (by rw [HBO.out,q3,q4,q5];simp)
           have hown8:w7.ownsRow w.heap.size 3 1 vO' (k :: pos).length (posC (k :: pos)):=by rw [posC_cons,List.length_cons,HPL.out];exact hown7
           have X:=Lib.hid (⟨hst,hown8⟩:_ ∧ _)
           clear hap7 hown7 hown8 hst
           go_wp2_with fail
           go_roundw
           case rel=>exact ⟨k + 1,num + 1,_,k :: pos,by go_num,rfl,by omega,by omega,by omega,hb7,X⟩
           case measure=>simp [intOf];omega
        | false =>
         rw [q3] at HTE
         have hte:=HTE.out
         go_wp2_with fail
         go_ret3
         exact ⟨retB_bad (HBAD.out (HBO.out.trans (by first | (simp [q3];done) | (rw [q3])))),(HBR.out.trans ((HR1.out _).mono HBR.out.size))⟩
       ·have t2:(dep != (on:Int) + 1) = true:=by simpa using q2
        rw [decide_eq_false q2] at HBO
        clear q2
        go_wp2_with fail
        go_ret3
        exact ⟨retB_bad (HBAD.out (HBO.out.trans (by first | (simp [];done)))),(HBR.out.trans ((HR1.out _).mono HBR.out.size))⟩
      ·have t1:(num != nx) = true:=by simpa using q1
       rw [decide_eq_false q1] at HBO
       clear q1
       go_wp2_with fail
       go_ret3
       exact ⟨retB_bad (HBAD.out (HBO.out.trans (by first | (simp [];done)))),(HBR.out.trans ((HR1.out _).mono HBR.out.size))⟩
     ·have k0b:(kd == 0) = false:=by simpa using k0
      by_cases k1:kd = 1
      ·subst k1
       have HBO:Hid (begOk s ⟨1,num,dep,name,ats,text,fr,tt⟩ = false):=Lib.hid (by rw [begOk1,decide_eq_false (by intro h;exact h (List.eq_nil_of_length_eq_zero (by rw [HON.out];omega)))];rfl)
       go_wp2_with fail
       go_ret3
       exact ⟨retB_bad (HBAD.out (HBO.out.trans (by first | (simp [];done)))),(HBR.out.trans ((HR1.out _).mono HBR.out.size))⟩
      ·have k1b:(kd == 1) = false:=by simpa using k1
       by_cases k2:kd = 2
       ·subst k2
        have HBO:Hid (begOk s ⟨2,num,dep,name,ats,text,fr,tt⟩ = false):=Lib.hid (by rw [begOk2,List.eq_nil_of_length_eq_zero (show s.opn.length = 0 by rw [HON.out];omega)];simp)
        go_wp2_with fail
        go_ret3
        exact ⟨retB_bad (HBAD.out (HBO.out.trans (by first | (simp [];done)))),(HBR.out.trans ((HR1.out _).mono HBR.out.size))⟩
       ·have k2b:(kd == 2) = false:=by simpa using k2
        have HBO:Hid (begOk s ⟨kd,num,dep,name,ats,text,fr,tt⟩ = false):=Lib.hid (begOk3 _ _ k0 k1 k2)
        go_wp2_with fail
        go_ret3
        exact ⟨retB_bad (HBAD.out (HBO.out.trans (by first | (simp [];done)))),(HBR.out.trans ((HR1.out _).mono HBR.out.size))⟩
    ·have hon1:0 < on:=by omega
     have hk1:0 < k:=by omega
     by_cases k0:kd = 0
     ·subst k0
      have hdec:decide (s.cnt = 0 ∨ s.opn ≠ []) = true:=decide_eq_true (.inr (fun h=>by have:=HON.out;rw [h] at this;simp at this;omega))
      have HBO:Hid (begOk s ⟨0,num,dep,name,ats,text,fr,tt⟩ = (decide (num = nx) && (decide (dep = (on:Int) + 1) && (text.isEmpty && (nameB name && attrsB none ats))))):=Lib.hid (by rw [begOk0,hdec,Bool.true_and,HBG.out.nx,HON.out])
      clear hdec
      by_cases q1:num = nx
      ·subst q1
       by_cases q2:dep = (on:Int) + 1
       ·subst q2
        cases q3:text.isEmpty with
        | true =>
         rw [q3] at HTE
         have hte:=HTE.out
         cases q4:nameB name with
         | false =>
          have HNK:Hid (∀ W,Calls Tryz.prog 51 #[.string (strL name)] W fun e w'=>e = .returned (.bool false) ∧ Below W.heap.size W w'):=Lib.hid fun W=>by have:=HNM.out W;rw [q4] at this;exact this
          go_wp2_with fail
          (with_reducible refine (HNK.out _).mono ?_)
          rintro e w2 ⟨rfl,hb2⟩
          have hR2:=(HR1.out _).trans (hb2.mono (HR1.out _).size)
          clear hb2
          go_wp2_with fail
          go_ret3
          exact ⟨retB_bad (HBAD.out (HBO.out.trans (by first | (simp [q3,q4];done) | (rw [q3,q4])))),(HBR.out.trans (hR2.mono HBR.out.size))⟩
         | true =>
          have HNK:Hid (∀ W,Calls Tryz.prog 51 #[.string (strL name)] W fun e w'=>e = .returned (.bool true) ∧ Below W.heap.size W w'):=Lib.hid fun W=>by have:=HNM.out W;rw [q4] at this;exact this
          go_wp2_with fail
          (with_reducible refine (HNK.out _).mono ?_)
          rintro e w2 ⟨rfl,hb2⟩
          have hR2:=(HR1.out _).trans (hb2.mono (HR1.out _).size)
          have f4:w2.cell? ⟨wr.heap.size,4,none⟩ = some (.slice A m c2):=by rw [cell_heap ((hb2.block wr.heap.size (by rw [(HN1.out _).2];omega)).trans (HN1.out _).1)];rfl
          have HAT:Hid (∀ W,Below w.heap.size w W → Calls Tryz.prog 52 #[.slice A m c2] W fun e w'=>e = .returned (.bool (attrsB none ats)) ∧ Below W.heap.size W w'):=Lib.hid fun W hW=>attrs9_any A m c2 ats W (HAA.out.1.below hW) HAA.out.2.1 HAA.out.2.2
          have HR2:=Lib.hid hR2
          clear hb2 hR2
          cases q5:attrsB none ats with
          | false =>
           rw [q5] at HAT
           go_wp2_with fail
           (with_reducible refine (HAT.out _ (HBR.out.trans (HR2.out.mono HBR.out.size))).mono ?_)
           rintro e w3 ⟨rfl,hb3⟩
           have hR3:=HR2.out.trans (hb3.mono HR2.out.size)
           clear hb3
           go_wp2_with fail
           go_ret3
           exact ⟨retB_bad (HBAD.out (HBO.out.trans (by first | (simp [q3,q4,q5];done) | (rw [q3,q4,q5])))),(HBR.out.trans (hR3.mono HBR.out.size))⟩
          | true =>
           rw [q5] at HAT
           go_wp2_with fail
           (with_reducible refine (HAT.out _ (HBR.out.trans (HR2.out.mono HBR.out.size))).mono ?_)
           rintro e w3 ⟨rfl,hb3⟩
           have hR3:=HR2.out.trans (hb3.mono HR2.out.size)
           have HOW3:Hid (w3.ownsRow w.heap.size 3 1 (.slice oa on oc) on (posC pos)):=Lib.hid (own_block HOR.out (fun j hj=>hR3.block j (HOR.out.lt j hj).2))
           have HB3:=Lib.hid (HBR.out.trans (hR3.mono HBR.out.size))
           clear hb3 hR3 f4
           go_wp2_with (at_builtin;go_must ((refine wpList_app w3 (by rfl) _ _ 66 (by rfl) w.heap.size 3 j0 (.int .i64 0) 1 8 Tryz.underlying66 hj hjz0 hjz1 hjz2 (by rfl) (by decide) (.slice oa on oc) on (posC pos) (by rfl) HOW3.out w3.heap.size rfl 1 [.int .i64 k] (by rfl) (by rfl) (by intro u hu;simp only [List.mem_cons,List.not_mem_nil,or_false] at hu;subst hu;rfl) honb (by decide) HB3.out.size (fun vO' w7 hown7 hap7=>?_))))
           have hb7:Below w.heap.size w w7:=(HB3.out.alloc HB3.out.size _).trans (hap7.below (by have:=HB3.out.size;simp;omega) (fun j hj=>(HOW3.out.lt j hj).1))
           have hst:=HBG.out.step0 HEK.out rfl (by rw [HBO.out,q3,q4,q5];simp)
           have hown8:w7.ownsRow w.heap.size 3 1 vO' (k :: pos).length (posC (k :: pos)):=by rw [posC_cons,List.length_cons,HPL.out];exact hown7
           have X:=Lib.hid (⟨hst,hown8⟩:_ ∧ _)
           clear hap7 hown7 hown8 hst
           go_wp2_with fail
           go_roundw
           case rel=>exact ⟨k + 1,num + 1,_,k :: pos,by go_num,rfl,by omega,by omega,by omega,hb7,X⟩
           case measure=>simp [intOf];omega
        | false =>
         rw [q3] at HTE
         have hte:=HTE.out
         go_wp2_with fail
         go_ret3
         exact ⟨retB_bad (HBAD.out (HBO.out.trans (by first | (simp [q3];done) | (rw [q3])))),(HBR.out.trans ((HR1.out _).mono HBR.out.size))⟩
       ·have t2:(dep != (on:Int) + 1) = true:=by simpa using q2
        rw [decide_eq_false q2] at HBO
        clear q2
        go_wp2_with fail
        go_ret3
        exact ⟨retB_bad (HBAD.out (HBO.out.trans (by first | (simp [];done)))),(HBR.out.trans ((HR1.out _).mono HBR.out.size))⟩
      ·have t1:(num != nx) = true:=by simpa using q1
       rw [decide_eq_false q1] at HBO
       clear q1
       go_wp2_with fail
       go_ret3
       exact ⟨retB_bad (HBAD.out (HBO.out.trans (by first | (simp [];done)))),(HBR.out.trans ((HR1.out _).mono HBR.out.size))⟩
     ·have k0b:(kd == 0) = false:=by simpa using k0
      by_cases k1:kd = 1
      ·subst k1
       have hdec1:decide (s.opn ≠ []) = true:=decide_eq_true (fun h=>by have:=HON.out;rw [h] at this;simp at this;omega)
       obtain ⟨j,hjk⟩:∃ j,k = j + 1:=⟨k - 1,by omega⟩
       have hjl:j < evs.length:=by have:=HN.out;omega
       obtain ⟨ej,hej,htj⟩:=HBG.out.text j hjk
       have heje:evs[j] = ej:=by rw [List.getElem?_eq_getElem hjl] at hej;exact Option.some.inj hej
       obtain ⟨b3,o3,A3,m3,c3,hb3e,_,_,_,hcells3⟩:=HE.out.at8 j hjl
       injection hb3e with hb3e
       injection hb3e with hb3e ho3e
       subst hb3e ho3e
       rw [heje] at hcells3
       obtain ⟨pk,hpk⟩:∃ pk,pk = ej.kind:=⟨_,rfl⟩
       have HJ:=Lib.hid (⟨hjk,hpk,by rw [htj,hpk],fun W hW=>by rw [hpk];exact (hcells3 W hW).1⟩:k = j + 1 ∧ pk = ej.kind ∧ s.text = (pk == 1) ∧ ∀ W,Below w.heap.size w W → W.cell? ⟨b,o + j * 8,none⟩ = some (.int .i64 pk))
       have HJB:Hid ((0:Int) ≤ (j:Int) ∧ (j:Int) < (n:Int) ∧ IntKind.i64.wrap ((k:Int) - 1) = (j:Int)):=Lib.hid ⟨by omega,by omega,by rw [IntWalk.i64_in _ (by omega)];omega⟩
       clear hcells3 heje hej htj hpk hjk
       have HBO:Hid (begOk s ⟨1,num,dep,name,ats,text,fr,tt⟩ = (decide (num = nx) && (decide (dep = (on:Int) + 1) && (name.isEmpty && (ats.isEmpty && (!text.isEmpty && (textsB text && !s.text))))))):=Lib.hid (by rw [begOk1,hdec1,Bool.true_and,HBG.out.nx,HON.out])
       by_cases q1:num = nx
       ·subst q1
        by_cases q2:dep = (on:Int) + 1
        ·subst q2
         cases q3:name.isEmpty with
         | false =>
          rw [q3] at HNE
          have hne:=HNE.out
          go_wp2_with fail
          go_ret3
          exact ⟨retB_bad (HBAD.out (HBO.out.trans (by first | (simp [q3];done) | (rw [q3])))),(HBR.out.trans ((HR1.out _).mono HBR.out.size))⟩
         | true =>
          rw [q3] at HNE
          have hne:=HNE.out
          by_cases q4:0 < m
          ·have hat:ats.isEmpty = false:=HME.out.2 q4
           go_wp2_with fail
           go_ret3
           exact ⟨retB_bad (HBAD.out (HBO.out.trans (by first | (simp [q3,hat];done) | (rw [q3,hat])))),(HBR.out.trans ((HR1.out _).mono HBR.out.size))⟩
          ·have hat:ats.isEmpty = true:=HME.out.1 (by omega)
           have q4b:m < 1:=by omega
           cases q5:text.isEmpty with
           | true =>
            rw [q5] at HTE
            have hte:=HTE.out
            go_wp2_with fail
            go_ret3
            exact ⟨retB_bad (HBAD.out (HBO.out.trans (by first | (simp [q3,hat,q5];done) | (rw [q3,hat,q5])))),(HBR.out.trans ((HR1.out _).mono HBR.out.size))⟩
           | false =>
            rw [q5] at HTE
            have hte:=HTE.out
            cases q6:textsB text with
            | false =>
             have HTK:Hid (∀ W,Calls Tryz.prog 53 #[.string (strL text)] W fun e w'=>e = .returned (.bool false) ∧ Below W.heap.size W w'):=Lib.hid fun W=>by have:=HTX.out W;rw [q6] at this;exact this
             go_wp2_with fail
             (with_reducible refine (HTK.out _).mono ?_)
             rintro e w2 ⟨rfl,hb2⟩
             have hR2:=(HR1.out _).trans (hb2.mono (HR1.out _).size)
             clear hb2
             go_wp2_with fail
             go_ret3
             exact ⟨retB_bad (HBAD.out (HBO.out.trans (by first | (simp [q3,hat,q5,q6];done) | (rw [q3,hat,q5,q6])))),(HBR.out.trans (hR2.mono HBR.out.size))⟩
            | true =>
             have HTK:Hid (∀ W,Calls Tryz.prog 53 #[.string (strL text)] W fun e w'=>e = .returned (.bool true) ∧ Below W.heap.size W w'):=Lib.hid fun W=>by have:=HTX.out W;rw [q6] at this;exact this
             skip
             go_wp2_with fail
             (with_reducible refine (HTK.out _).mono ?_)
             rintro e w2 ⟨rfl,hb2⟩
             have hR2:=(HR1.out _).trans (hb2.mono (HR1.out _).size)
             have HB2:=Lib.hid (HBR.out.trans (hR2.mono HBR.out.size))
             have HOW2:Hid (w2.ownsRow w.heap.size 3 1 (.slice oa on oc) on (posC pos)):=Lib.hid (own_block HOR.out (fun j hj=>hR2.block j (HOR.out.lt j hj).2))
             clear hb2 hR2
             have f0:=(HJ.out.2.2.2 w2 HB2.out)
             obtain ⟨i1,i2,ew⟩:=HJB.out
             by_cases q7:pk = 1
             ·subst q7
              have hst:s.text = true:=by rw [HJ.out.2.2.1];rfl
              go_wp2_with fail
              go_ret3
              exact ⟨retB_bad (HBAD.out (HBO.out.trans (by first | (simp [q3,hat,q5,q6,hst];done) | (rw [q3,hat,q5,q6,hst])))),HB2.out⟩
             ·have q7b:(pk == 1) = false:=by simpa using q7
              have hst:s.text = false:=by rw [HJ.out.2.2.1];exact q7b
              clear q7
              go_wp2_with fail
              have hst:=HBG.out.step1 HEK.out rfl (by rw [HBO.out,q3,hat,q5,q6,hst];simp)
              have hown8:w2.ownsRow w.heap.size 3 1 (.slice oa on oc) pos.length (posC pos):=by rw [HPL.out];exact HOW2.out
              have X:=Lib.hid (⟨hst,hown8⟩:_ ∧ _)
              have hb7:=HB2.out
              clear hown8 hst
              go_roundw
              case rel=>exact ⟨k + 1,num + 1,_,pos,by go_num,rfl,by omega,by omega,by omega,hb7,X⟩
              case measure=>simp [intOf];omega
        ·have t2:(dep != (on:Int) + 1) = true:=by simpa using q2
         rw [decide_eq_false q2] at HBO
         clear q2
         go_wp2_with fail
         go_ret3
         exact ⟨retB_bad (HBAD.out (HBO.out.trans (by first | (simp [];done)))),(HBR.out.trans ((HR1.out _).mono HBR.out.size))⟩
       ·have t1:(num != nx) = true:=by simpa using q1
        rw [decide_eq_false q1] at HBO
        clear q1
        go_wp2_with fail
        go_ret3
        exact ⟨retB_bad (HBAD.out (HBO.out.trans (by first | (simp [];done)))),(HBR.out.trans ((HR1.out _).mono HBR.out.size))⟩
      ·have k1b:(kd == 1) = false:=by simpa using k1
       by_cases k2:kd = 2
       ·subst k2
        have HBO:Hid (begOk s ⟨2,num,dep,name,ats,text,fr,tt⟩ = (text.isEmpty && (ats.isEmpty && decide (s.opn.head? = some (num,dep,name))))):=Lib.hid (by rw [begOk2])
        cases q5:text.isEmpty with
        | false =>
         rw [q5] at HTE
         have hte:=HTE.out
         go_wp2_with fail
         go_ret3
         exact ⟨retB_bad (HBAD.out (HBO.out.trans (by first | (simp [q5];done) | (rw [q5])))),(HBR.out.trans ((HR1.out _).mono HBR.out.size))⟩
        | true =>
         rw [q5] at HTE
         have hte:=HTE.out
         by_cases q4:0 < m
         ·have hat:ats.isEmpty = false:=HME.out.2 q4
          go_wp2_with fail
          go_ret3
          exact ⟨retB_bad (HBAD.out (HBO.out.trans (by first | (simp [q5,hat];done) | (rw [q5,hat])))),(HBR.out.trans ((HR1.out _).mono HBR.out.size))⟩
         ·have hat:ats.isEmpty = true:=HME.out.1 (by omega)
          have q4b:m < 1:=by omega
          rw [q5,hat,Bool.true_and,Bool.true_and] at HBO
          obtain ⟨pp,ps,hps⟩:∃ pp ps,pos = pp :: ps:=by
           cases pos with
           | nil=>have:=HPL.out;simp at this;omega
           | cons a r=>exact ⟨a,r,rfl⟩
          subst hps
          obtain ⟨et,het,hhd⟩:=HBG.out.top
          have hql:ps.length + 1 = on:=HPL.out
          obtain ⟨q,hq⟩:∃ q,q = ps.length:=⟨_,rfl⟩
          obtain ⟨go,goc,hgo,hgoc,_,hgow,_,hgcell⟩:=own_some (n:=q) (by rw [hq,hql];exact HOR.out)
          have hoa:oa = some ⟨go,0,none⟩:=by injection hgo
          have hocc:oc = goc:=by injection hgo
          subst hoa hocc
          have hpl:pp < evs.length:=get_lt het
          obtain ⟨b3,o3,A3,m3,c3,hb3e,_,_,_,hcells3⟩:=HE.out.at8 pp hpl
          injection hb3e with hb3e
          injection hb3e with hb3e ho3e
          subst hb3e ho3e
          have hete:evs[pp] = et:=by rw [List.getElem?_eq_getElem hpl] at het;exact Option.some.inj het
          rw [hete] at hcells3
          have HC3:=Lib.hid hcells3
          have HTOPC:Hid (wr.cell? ⟨go,q,none⟩ = some (.int .i64 pp)):=Lib.hid (hgcell _ _ (by rw [hq];exact posC_top pp ps))
          have HHD:=Lib.hid hhd
          have HPL2:=Lib.hid (⟨hql,hq,hgow⟩:_ ∧ _ ∧ _)
          have ew:IntKind.i64.wrap ((on:Int) - 1) = (q:Int):=by rw [IntWalk.i64_in _ (by omega)];omega
          have i1:(0:Int) ≤ (q:Int):=by omega
          have i2:(q:Int) < (on:Int):=by omega
          have i3:(0:Int) ≤ (pp:Int):=by omega
          have i4:(pp:Int) < (n:Int):=by have:=HN.out;omega
          have y1:∀ o,(wr.alloc o).cell? ⟨go,q,none⟩ = some (.int .i64 pp):=fun o=>((HR1.out o).cell (p:=⟨go,q,none⟩) hgow).trans HTOPC.out
          obtain ⟨kt,nt,dt,nmt,atst,textt,frt,ttt⟩:=et
          simp only at *
          have z:=fun o=>HC3.out (wr.alloc o) (HBR.out.trans ((HR1.out o).mono HBR.out.size))
          have z0:=fun o=>(z o).1
          have z1:=fun o=>(z o).2.1
          have z2:=fun o=>(z o).2.2.1
          have z3:=fun o=>(z o).2.2.2.1
          have z4:=fun o=>(z o).2.2.2.2.1
          have z5:=fun o=>(z o).2.2.2.2.2.1
          have z6:=fun o=>(z o).2.2.2.2.2.2.1
          have z7:=fun o=>(z o).2.2.2.2.2.2.2
          clear z hete hcells3 hgcell hhd hql hq het hgo hgow
          have HRR:Hid (∀ o o',Below wr.heap.size wr ((wr.alloc o).alloc o')):=Lib.hid fun o o'=>(HR1.out o).alloc (by simp) o'
          by_cases q1:num = nt
          ·subst q1
           by_cases q2:dep = dt
           ·subst q2
            by_cases q3:name = nmt
            ·subst q3
             have hcm:((strL name).toList == (strL name).toList) = true:=by simp
             go_wp2_with fail
             have hst:=HBG.out.step2 HEK.out rfl (by rw [HBO.out,HHD.out];simp)
             have hb7:=HBR.out.trans ((HRR.out (.cells #[.int .i64 2,.int .i64 num,.int .i64 dep,.string (strL name),.slice A m c2,.string (strL text),.int .i64 fr,.int .i64 tt] 47) (.cells #[.int .i64 kt,.int .i64 num,.int .i64 dep,.string (strL name),.slice A3 m3 c3,.string (strL textt),.int .i64 frt,.int .i64 ttt] 47)).mono HBR.out.size)
             have hown8:((wr.alloc (.cells #[.int .i64 2,.int .i64 num,.int .i64 dep,.string (strL name),.slice A m c2,.string (strL text),.int .i64 fr,.int .i64 tt] 47)).alloc (.cells #[.int .i64 kt,.int .i64 num,.int .i64 dep,.string (strL name),.slice A3 m3 c3,.string (strL textt),.int .i64 frt,.int .i64 ttt] 47)).ownsRow w.heap.size 3 1 (.slice (some ⟨go,0,none⟩) q oc) ps.length (posC ps):=by
              have h0:=own_block HOR.out (fun j hj=>(HRR.out (.cells #[.int .i64 2,.int .i64 num,.int .i64 dep,.string (strL name),.slice A m c2,.string (strL text),.int .i64 fr,.int .i64 tt] 47) (.cells #[.int .i64 kt,.int .i64 num,.int .i64 dep,.string (strL name),.slice A3 m3 c3,.string (strL textt),.int .i64 frt,.int .i64 ttt] 47)).block j (HOR.out.lt j hj).2)
              rw [posC_cons,← HPL2.out.1] at h0
              rw [HPL2.out.2.1]
              exact own_pop h0 (by rw [posC_length];omega)
             have X:=Lib.hid (⟨hst,hown8⟩:_ ∧ _)
             clear hown8 hst
             go_roundw
             case rel=>exact ⟨k + 1,nx,_,ps,by go_num,rfl,by omega,by omega,by omega,hb7,X⟩
             case measure=>simp [intOf];omega
            ·have hcm:((strL name).toList == (strL nmt).toList) = false:=cmpU_ne q3
             go_wp2_with fail
             go_ret3
             exact ⟨retB_bad (HBAD.out (HBO.out.trans (by first | (simp [HHD.out,decide_eq_false (by simp [Ne.symm q3])];done) | (rw [HHD.out,decide_eq_false (by simp [Ne.symm q3])])))),(HBR.out.trans ((HRR.out _ _).mono HBR.out.size))⟩
           ·have t2:(dep != dt) = true:=by simpa using q2
            go_wp2_with fail
            go_ret3
            exact ⟨retB_bad (HBAD.out (HBO.out.trans (by first | (simp [HHD.out,decide_eq_false (by simp [Ne.symm q2])];done) | (rw [HHD.out,decide_eq_false (by simp [Ne.symm q2])])))),(HBR.out.trans ((HRR.out _ _).mono HBR.out.size))⟩
          ·have t1:(num != nt) = true:=by simpa using q1
           go_wp2_with fail
           go_ret3
           exact ⟨retB_bad (HBAD.out (HBO.out.trans (by first | (simp [HHD.out,decide_eq_false (by simp [Ne.symm q1])];done) | (rw [HHD.out,decide_eq_false (by simp [Ne.symm q1])])))),(HBR.out.trans ((HRR.out _ _).mono HBR.out.size))⟩
       ·have k2b:(kd == 2) = false:=by simpa using k2
        have HBO:Hid (begOk s ⟨kd,num,dep,name,ats,text,fr,tt⟩ = false):=Lib.hid (begOk3 _ _ k0 k1 k2)
        go_wp2_with fail
        go_ret3
        exact ⟨retB_bad (HBAD.out (HBO.out.trans (by first | (simp [];done)))),(HBR.out.trans ((HR1.out _).mono HBR.out.size))⟩
  ·have hk2:k = n:=by omega
   subst hk2
   have htk:evs.take k = evs:=List.take_of_length_le (by rw [HN.out];exact Nat.le_refl _)
   have hall:=HBG.out.all
   rw [htk] at hall
   have HR:Hid (begR evs = (true,(on:Int),decide (evs ≠ [] ∧ s.opn = []))):=Lib.hid (by rw [begR_all hall,HON.out])
   have HD:Hid (decide (evs ≠ [] ∧ s.opn = []) = (decide (0 < k) && ((on:Int) == 0))):=Lib.hid (by
    rw [dec_and]
    congr 1
    ·rw [decide_eq_decide,HN.out];exact List.length_pos_iff.symm
    ·rw [← HON.out]
     cases s.opn with
     | nil=>simp
     | cons x xs=>simp;omega)
   clear hall htk
   by_cases hk0:k < 1
   ·go_wp2_with fail
    go_ret3
    exact ⟨by rw [HR.out,HD.out,decide_eq_false (by omega)];rfl,HBR.out⟩
   ·have hk1:0 < k:=by omega
    go_wp2_with fail
    go_ret3
    exact ⟨by rw [HR.out,HD.out,decide_eq_true hk1,Bool.true_and];rfl,HBR.out⟩
end Go.Proofs.YtgjokdngbocehaaGreatDoor
namespace Go.Proofs.YtgjokdngbocehaaGreatDoor
open Go.RowKit
theorem evSmQH (e:Ev) (h:wtE e ≤ 1048576):EvSm e:=by
 unfold wtE at h
 have hA:∀ (l:List (List UInt8 × List UInt8)),l.length ≤ wtA l ∧ ∀ p ∈ l,p.1.length ≤ wtA l ∧ p.2.length ≤ wtA l:=by
  intro l
  induction l with
  | nil=>exact ⟨Nat.le_refl _,fun p hp=>by cases hp⟩
  | cons x r ih =>
   obtain ⟨h1,h2⟩:=ih
   have e:wtA (x :: r) = x.1.length + x.2.length + 1 + wtA r:=by unfold wtA;simp
   refine ⟨by simp;omega,fun p hp=>?_⟩
   rcases List.mem_cons.1 hp with rfl | hp
   ·omega
   ·have:=h2 p hp;omega
 obtain ⟨h1,h2⟩:=hA e.ats
 exact ⟨by omega,by omega,by omega,fun p hp=>by have:=h2 p hp;omega⟩
theorem evsSmH {evs:List Ev} (h:wtEs evs ≤ 1048576):∀ e ∈ evs,EvSm e:=fun e he=>by
 obtain ⟨i,hi,rfl⟩:=List.getElem_of_mem he
 exact evSmQH _ (Nat.le_trans (wtEs_mem evs i hi) h)
set_option maxRecDepth 100000 in
theorem begin15_any (a:Option Addr) (n c:Nat) (evs:List Ev) (w:World) (hE:EvsAt w a n evs) (hn:n ≤ 1048576) (hsm:∀ e ∈ evs,EvSm e) :
  Calls Tryz.prog 11 #[.slice a n c] w fun e w'=>e = .returned (.bool (begAll beg0 evs).isSome) ∧ Below w.heap.size w w':=by
 have HB:=Lib.hid (begin_any a n c evs w hE hn hsm)
 have HR:Hid ((begR evs).1 = (begAll beg0 evs).isSome):=Lib.hid (by unfold begR;cases begAll beg0 evs <;> rfl)
 generalize begR evs = r at *
 obtain ⟨r1,r2,r3⟩:=r
 simp only at HR
 unfold retB at HB
 simp only at HB
 clear hE hsm
 go_enter Tryz.func11,Tryz.ntmps11
 go_wp2_with fail
 (with_reducible refine HB.out.mono ?_)
 rintro e w2 ⟨rfl,hb2⟩
 have HB2:=Lib.hid hb2
 clear hb2
 go_wp2_with fail
 go_ret
 exact ⟨by rw [← HR.out];rfl,HB2.out⟩
end Go.Proofs.YtgjokdngbocehaaGreatDoor
namespace Go.Proofs.YtgjokdngbocehaaGreatDoor
open Go.RowKit
def ahE2:List Ev:=[⟨0,0,1,[97],[],[],0,0⟩,⟨0,1,2,[98],[],[],0,0⟩]
def ahE1:List Ev:=[⟨0,0,1,[97],[],[],0,0⟩]
def ahX:PX:=.mk 3 [] [.mk 0 0 [98] []] [] 0 [] 0
def ahP:List PS:=[.mk 0 0 [97] [ahX]]
theorem ah_v1:verdN 1 ahE1 ahP = ([(0,1)],0):=by kernel_rfl
theorem ah_v2:verdN 1 ahE2 ahP = ([(0,2)],0):=by kernel_rfl
theorem ah_sm2:∀ e ∈ ahE2,EvSm e:=fun e he=>by
 simp only [ahE2,List.mem_cons,List.not_mem_nil,or_false] at he
 rcases he with rfl | rfl <;> exact ⟨by decide,by decide,by decide,fun p hp=>by cases hp⟩
theorem ah_sm1:∀ e ∈ ahE1,EvSm e:=fun e he=>by
 simp only [ahE1,List.mem_cons,List.not_mem_nil,or_false] at he
 subst he;exact ⟨by decide,by decide,by decide,fun p hp=>by cases hp⟩
theorem ah_evs {w:World} {G:Nat} (h:w.heap[G]? = some (.cells (ahE2.flatMap fun e=>evL e none 0 0).toArray 47 (0,0))):EvsAt w (some ⟨G,0,none⟩) 2 ahE2 ∧ EvsAt w (some ⟨G,0,none⟩) 1 ahE1:=by
 have c:∀ j,w.cell? ⟨G,j,none⟩ = (ahE2.flatMap fun e=>evL e none 0 0).toArray[j]?:=fun j=>by rw [cell_heap h]
 refine ⟨⟨rfl,fun i hi=>?_⟩,⟨rfl,fun i hi=>?_⟩⟩
 ·have h3:i < 2:=hi
  have key:i = 0 ∨ i = 1:=by omega
  refine ⟨G,0,none,0,0,rfl,heap_lt h,Nat.le_refl _,⟨by rcases key with rfl | rfl <;> rfl,fun k hk=>by rcases key with rfl | rfl <;> simp [ahE2] at hk⟩,fun j hj=>?_⟩
  rw [c]
  rcases key with rfl | rfl
  ·match j,hj with
   | 0,_=>rfl
   | 1,_=>rfl
   | 2,_=>rfl
   | 3,_=>rfl
   | 4,_=>rfl
   | 5,_=>rfl
   | 6,_=>rfl
   | 7,_=>rfl
  ·match j,hj with
   | 0,_=>rfl
   | 1,_=>rfl
   | 2,_=>rfl
   | 3,_=>rfl
   | 4,_=>rfl
   | 5,_=>rfl
   | 6,_=>rfl
   | 7,_=>rfl
 ·have h3:i < 1:=hi
  have key:i = 0:=by omega
  subst key
  refine ⟨G,0,none,0,0,rfl,heap_lt h,Nat.le_refl _,⟨rfl,fun k hk=>by simp [ahE1] at hk⟩,fun j hj=>?_⟩
  rw [c]
  match j,hj with
  | 0,_=>rfl
  | 1,_=>rfl
  | 2,_=>rfl
  | 3,_=>rfl
  | 4,_=>rfl
  | 5,_=>rfl
  | 6,_=>rfl
  | 7,_=>rfl
def ahW (w:World):World :=
 (((((w.alloc (.cells #[.int .i64 0,.int .i64 0,.string ⟨#[98]⟩,.slice none 0 0] 76)).alloc (.cells #[.int .i64 3,.slice none 0 0,.slice (some ⟨w.heap.size,0,none⟩) 1 1,.string ⟨#[]⟩,.int .i64 0,.string ⟨#[]⟩,.int .i64 0] 42)).alloc
  (.cells #[.int .i64 3,.slice none 0 0,.slice (some ⟨w.heap.size,0,none⟩) 1 1,.string ⟨#[]⟩,.int .i64 0,.string ⟨#[]⟩,.int .i64 0] 42)).alloc (.cells #[.int .i64 0,.int .i64 0,.string ⟨#[97]⟩,.slice (some ⟨w.heap.size + 1 + 1,0,none⟩) 1 1] 76)).alloc
  (.cells #[.slice (some ⟨w.heap.size + 1 + 1 + 1,0,none⟩) 1 1] 25)).alloc (.cells #[.int .i64 0,.int .i64 0,.int .i64 1,.string ⟨#[97]⟩,.slice none 0 0,.string ⟨#[]⟩,.int .i64 0,.int .i64 0,.int .i64 0,.int .i64 1,.int .i64 2,.string ⟨#[98]⟩,.slice none 0 0,.string ⟨#[]⟩,.int .i64 0,.int .i64 0] 47)
theorem ahW_spec (w:World):Below w.heap.size w (ahW w) ∧ (ahW w).heap[w.heap.size + 1 + 1 + 1 + 1]? = some (.cells #[.slice (some ⟨w.heap.size + 1 + 1 + 1,0,none⟩) 1 1] 25 (0,0)) ∧ SsAt 1 (ahW w) (some ⟨w.heap.size + 1 + 1 + 1,0,none⟩) ahP ∧
  EvsAt (ahW w) (some ⟨w.heap.size + 1 + 1 + 1 + 1 + 1,0,none⟩) 2 ahE2 ∧ EvsAt (ahW w) (some ⟨w.heap.size + 1 + 1 + 1 + 1 + 1,0,none⟩) 1 ahE1:=by
 have hb:Below w.heap.size w (ahW w):=((((((Below.refl _ _).alloc (Nat.le_refl _) _).alloc (by simp) _).alloc (by simp only [World.size_alloc];omega) _).alloc (by simp only [World.size_alloc];omega) _).alloc (by simp only [World.size_alloc];omega) _).alloc (by simp only [World.size_alloc];omega) _
 have k0:(ahW w).heap[w.heap.size]? = some (.cells #[.int .i64 0,.int .i64 0,.string ⟨#[98]⟩,.slice none 0 0] 76 (0,0)):=by
  unfold ahW
  iterate 5 rw [Below.heap_alloc _ _ _ (by simp only [World.size_alloc];omega)]
  exact alloc_atH _ _ rfl
 have k2:(ahW w).heap[w.heap.size + 1 + 1]? = some (.cells #[.int .i64 3,.slice none 0 0,.slice (some ⟨w.heap.size,0,none⟩) 1 1,.string ⟨#[]⟩,.int .i64 0,.string ⟨#[]⟩,.int .i64 0] 42 (0,0)):=by
  unfold ahW
  iterate 3 rw [Below.heap_alloc _ _ _ (by simp only [World.size_alloc];omega)]
  exact alloc_atH _ _ (by simp only [World.size_alloc])
 have k3:(ahW w).heap[w.heap.size + 1 + 1 + 1]? = some (.cells #[.int .i64 0,.int .i64 0,.string ⟨#[97]⟩,.slice (some ⟨w.heap.size + 1 + 1,0,none⟩) 1 1] 76 (0,0)):=by
  unfold ahW
  iterate 2 rw [Below.heap_alloc _ _ _ (by simp only [World.size_alloc];omega)]
  exact alloc_atH _ _ (by simp only [World.size_alloc])
 have k4:(ahW w).heap[w.heap.size + 1 + 1 + 1 + 1]? = some (.cells #[.slice (some ⟨w.heap.size + 1 + 1 + 1,0,none⟩) 1 1] 25 (0,0)):=by
  unfold ahW
  rw [Below.heap_alloc _ _ _ (by simp only [World.size_alloc];omega)]
  exact alloc_atH _ _ (by simp only [World.size_alloc])
 have k5:(ahW w).heap[w.heap.size + 1 + 1 + 1 + 1 + 1]? = some (.cells (ahE2.flatMap fun e=>evL e none 0 0).toArray 47 (0,0)):=by
  unfold ahW
  exact alloc_atH _ _ (by simp only [World.size_alloc])
 have w0:W64 0:=by unfold W64;decide
 have hs0:SsAt 0 (ahW w) (some ⟨w.heap.size,0,none⟩) [.mk 0 0 [98] []]:=ss_oneH (s:=.mk 0 0 [98] []) (wa:=none) (wc:=0) k0 (Nat.le_refl _) w0 w0 (by decide) (Nat.zero_le _) (fun i hi=>absurd hi (Nat.not_lt_zero _))
 have hx:XAt 1 (ahW w) ahX [.int .i64 3,.slice none 0 0,.slice (some ⟨w.heap.size,0,none⟩) 1 1,.string ⟨#[]⟩,.int .i64 0,.string ⟨#[]⟩,.int .i64 0] :=
  ⟨none,0,some ⟨w.heap.size,0,none⟩,1,rfl,Nat.le_refl _,Nat.le_refl _,w64_3H,w0,w0,Nat.zero_le _,Nat.zero_le _,Nat.zero_le _,Nat.le_of_ble_eq_true rfl,RowP.nil _ _ _ _,hs0⟩
 have hxs:XsAt 1 (ahW w) (some ⟨w.heap.size + 1 + 1,0,none⟩) [ahX]:=xs_oneH k2 rfl hx
 obtain ⟨he2,he1⟩:=ah_evs k5
 exact ⟨hb,k4,ss_oneH (s:=.mk 0 0 [97] [ahX]) (wa:=some ⟨w.heap.size + 1 + 1,0,none⟩) (wc:=1) k3 (Nat.le_refl _) w0 w0 (by decide) (Nat.le_of_ble_eq_true rfl) hxs,he2,he1⟩
set_option maxRecDepth 100000 in
set_option maxHeartbeats 4000000 in
theorem awake15_any (w:World) (hE:EnvT w):Calls Tryz.prog 8 #[] w fun e w'=>e = .returned (.bool true) ∧ Below w.heap.size w w':=by
 obtain ⟨W,hW⟩:∃ W,W = ahW w:=⟨_,rfl⟩
 obtain ⟨hb,h4,hss,he2,he1⟩:=ahW_spec w
 rw [← hW] at hb h4 hss he2 he1
 have HB:=Lib.hid hb
 have HV:Hid (∀ (n:Nat) (evs:List Ev) W2,Below W.heap.size W W2 → n ≤ 2 → EvsAt W (some ⟨w.heap.size + 1 + 1 + 1 + 1 + 1,0,none⟩) n evs → (∀ e ∈ evs,EvSm e) → wtEs evs ≤ 1048576 → Calls Tryz.prog 10 #[.slice (some ⟨w.heap.size + 1 + 1 + 1 + 1 + 1,0,none⟩) n n,.agg #[.slice (some ⟨w.heap.size + 1 + 1 + 1,0,none⟩) 1 1]] W2 fun e w'=>∃ A cc,e = .returned (.tuple #[.slice A (verdN 1 evs ahP).1.length cc,.int .i64 (verdN 1 evs ahP).2]) ∧ VdAt w' A (verdN 1 evs ahP).1.length (verdN 1 evs ahP).1 ∧ Below W2.heap.size W2 w'):=Lib.hid fun n evs W2 hW2 hn hev hsm hwt=>by
  have hbb:=hb.trans (hW2.mono hb.size)
  refine (verdH_any (f:=1) (by decide) (some ⟨w.heap.size + 1 + 1 + 1 + 1 + 1,0,none⟩) n n evs (some ⟨w.heap.size + 1 + 1 + 1,0,none⟩) 1 ahP W2 ⟨hev.below hW2,by omega,hsm,hwt,(hE.below hbb).rng,(hE.below hbb).tab⟩ (SsAt.below hss hW2) (Nat.le_of_ble_eq_true rfl)).mono ?_
  rintro e w' ⟨A,cc,g1,_,g2,g3⟩
  exact ⟨A,cc,g1,g2,g3⟩
 have HV1:Hid (Calls Tryz.prog 10 #[.slice (some ⟨w.heap.size + 1 + 1 + 1 + 1 + 1,0,none⟩) 1 1,.agg #[.slice (some ⟨w.heap.size + 1 + 1 + 1,0,none⟩) 1 1]] W.drew fun e w'=>∃ A cc,e = .returned (.tuple #[.slice A 1 cc,.int .i64 0]) ∧ VdAt w' A 1 [(0,1)] ∧ Below W.heap.size W w'):=Lib.hid (by
  have:=HV.out 1 ahE1 W.drew ((Below.refl _ _).drew) (by decide) he1 ah_sm1 (by decide)
  rw [ah_v1] at this
  exact this.mono fun e w' ⟨A,cc,g1,g2,g3⟩=>⟨A,cc,g1,g2,((Below.refl _ _).drew).trans (g3.mono (Nat.le_refl _))⟩)
 have HV2:Hid (∀ W2,Below W.heap.size W W2 → Calls Tryz.prog 10 #[.slice (some ⟨w.heap.size + 1 + 1 + 1 + 1 + 1,0,none⟩) 2 2,.agg #[.slice (some ⟨w.heap.size + 1 + 1 + 1,0,none⟩) 1 1]] W2 fun e w'=>∃ A cc,e = .returned (.tuple #[.slice A 1 cc,.int .i64 0]) ∧ VdAt w' A 1 [(0,2)] ∧ Below W2.heap.size W2 w'):=Lib.hid fun W2 hW2=>by
  have:=HV.out 2 ahE2 W2 hW2 (by decide) he2 ah_sm2 (by decide)
  rw [ah_v2] at this
  exact this
 have HPC:Hid (∀ W2,Below W.heap.size W W2 → W2.cell? ⟨w.heap.size + 1 + 1 + 1 + 1,0,none⟩ = some (.slice (some ⟨w.heap.size + 1 + 1 + 1,0,none⟩) 1 1)):=Lib.hid fun W2 hW2=>by
  rw [cell_heap ((hW2.block _ (heap_lt h4)).trans h4)];rfl
 have x0:=HPC.out W (Below.refl _ _)
 unfold ahW at hW
 have HW:=Lib.hid hW
 clear hW hb h4 hss he2 he1 hE HV
 go_enter Tryz.func8,Tryz.ntmps8
 go_wp2_with fail
 rw [← HW.out]
 go_region_with (first | (go_at_call 10;(with_reducible refine HV1.out.mono ?_);rintro e w2 ⟨A1,c1,rfl,hv1,hb2⟩;have HB2:=Lib.hid hb2;have HD1:=Lib.hid hv1;have x2:=HPC.out w2 hb2;clear hv1 hb2))
 all_goals
  go_wp2_with fail
  (with_reducible refine (HV2.out _ HB2.out).mono ?_)
  rintro e w3 ⟨A2,c2,rfl,hv2,hb3⟩
  obtain ⟨b1,o1,rfl,_,y1,y2⟩:=(HD1.out.below hb3).2 0 (Nat.lt_succ_self _)
  obtain ⟨b2,o2,rfl,_,y3,y4⟩:=hv2.2 0 (Nat.lt_succ_self _)
  simp only [Nat.zero_mul,Nat.add_zero,List.getElem_cons_zero] at y1 y2 y3 y4
  have HB3:=Lib.hid (HB.out.trans ((HB2.out.trans (hb3.mono HB2.out.size)).mono HB.out.size))
  clear hb3 hv2 HD1
  go_wp2_with fail
  go_ret
  exact ⟨rfl,HB3.out⟩
end Go.Proofs.YtgjokdngbocehaaGreatDoor
