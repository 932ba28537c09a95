/-
  (*tree.Check).closes.
-/
import Derived.BigRegion
import Derived.RangeFuncNested
import Derived.RangeFuncBox
import Derived.RangeFuncLeaves
import Derived.Shelf.Abstract
import Derived.OwnWalkIn
import Derived.TacticsInMore
import Derived.LoopNIn
import Derived.LoopIn
import Derived.Test.YtgjokdngbocehaaGreatDoorHsA
import Derived.Test.YtgjokdngbocehaaGreatDoorHsC
import Derived.Test.YtgjokdngbocehaaGreatDoorHsD
import Derived.Test.YtgjokdngbocehaaGreatDoorHsE
import Derived.Test.YtgjokdngbocehaaGreatDoorHsK
namespace Go.Proofs.YtgjokdngbocehaaGreatDoor
open Go.RowKit
def closeB (dn dd:Int) (dname:List UInt8) (en ed:Int) (ename etext:List UInt8) (m:Nat):Bool :=
 en == dn && (ed == dd && (decide (ename = dname) && (etext.isEmpty && m == 0)))
theorem closes_none (cb:Nat) (oa:Option Addr) (oc:Nat) (cells:Array Value) (w:World) (h0:w.cell? ⟨cb,0,none⟩ = some (.slice oa 0 oc)) (hcb:cb < w.heap.size) :
  Calls Tryz.prog 79 #[.pointer (some ⟨cb,0,none⟩),.agg cells] w fun e w'=>e = .returned (.bool false) ∧ Below w.heap.size w w':=by
 have h0':(w.alloc (.cells cells 47)).cell? ⟨cb,0,none⟩ = some (.slice oa 0 oc):=((((Below.refl w.heap.size w).alloc (Nat.le_refl _) (.cells cells 47)).cell (p:=⟨cb,0,none⟩) hcb)).trans h0
 clear h0
 go_enter Tryz.func79,Tryz.ntmps79
 go_wp2_with fail
 go_ret
 exact ⟨rfl,(Below.refl w.heap.size w).alloc (Nat.le_refl _) _⟩
set_option maxRecDepth 1000000 in
set_option maxHeartbeats 4000000 in
theorem closes_any (cb ob oo on oc:Nat) (dn dd:Int) (dname:List UInt8) (ek en ed efr ett:Int) (ename etext:List UInt8) (A:Option Addr) (m c:Nat) (w:World)
  (h0:w.cell? ⟨cb,0,none⟩ = some (.slice (some ⟨ob,oo,none⟩) (on + 1) oc)) (hcb:cb < w.heap.size) (hob:ob < w.heap.size) (hon:on ≤ 1048576)
  (c0:w.cell? ⟨ob,oo + on * 8,none⟩ = some (.int .i64 0)) (c1:w.cell? ⟨ob,oo + on * 8 + 1,none⟩ = some (.int .i64 dn)) (c2:w.cell? ⟨ob,oo + on * 8 + 2,none⟩ = some (.int .i64 dd)) (c3:w.cell? ⟨ob,oo + on * 8 + 3,none⟩ = some (.string (strL dname)))
  (c4:w.cell? ⟨ob,oo + on * 8 + 4,none⟩ = some (.slice none 0 0)) (c5:w.cell? ⟨ob,oo + on * 8 + 5,none⟩ = some (.string ⟨#[]⟩)) (c6:w.cell? ⟨ob,oo + on * 8 + 6,none⟩ = some (.int .i64 0)) (c7:w.cell? ⟨ob,oo + on * 8 + 7,none⟩ = some (.int .i64 0)) :
  Calls Tryz.prog 79 #[.pointer (some ⟨cb,0,none⟩),.agg (evC ek en ed ename A m c etext efr ett)] w fun e w'=>e = .returned (.bool (closeB dn dd dname en ed ename etext m)) ∧ Below w.heap.size w w':=by
 have e3:((strL ename).toList == (strL dname).toList) = decide (ename = dname):=by
  by_cases h:ename = dname
  ·rw [decide_eq_true h];exact cmpU_eq h
  ·rw [decide_eq_false h];exact cmpU_ne h
 have e4:(strL etext).toList.isEmpty = etext.isEmpty:=strU_empty etext
 have e5:((m:Int) == 0) = (m == 0):=by
  rcases m with _ | m
  ·rfl
  ·rw [show (m + 1 == 0) = false by rfl];simp;omega
 unfold closeB
 generalize decide (ename = dname) = b3 at *
 generalize etext.isEmpty = b4 at *
 generalize (m == 0) = b5 at *
 generalize b1e:(en == dn) = b1
 generalize b2e:(ed == dd) = b2
 generalize hN:strL ename = N at *
 generalize hD:strL dname = D at *
 generalize hX:strL etext = X at *
 unfold evC
 rw [hN,hX]
 clear hN hD hX
 have HB:Hid (∀ o,Below w.heap.size w (w.alloc o)):=Lib.hid fun o=>(Below.refl w.heap.size w).alloc (Nat.le_refl _) o
 have ew:IntKind.i64.wrap ((on:Int) + 1 - 1) = (on:Int):=by rw [IntWalk.i64_in _ (by omega)];omega
 cases b1 with
 | false =>
  go_enter Tryz.func79,Tryz.ntmps79
  have k0:=fun o=>((HB.out o).cell (p:=⟨cb,0,none⟩) hcb).trans h0
  have j0:=fun o=>((HB.out o).cell (p:=⟨ob,oo + on * 8,none⟩) hob).trans c0
  have j1:=fun o=>((HB.out o).cell (p:=⟨ob,oo + on * 8 + 1,none⟩) hob).trans c1
  have j2:=fun o=>((HB.out o).cell (p:=⟨ob,oo + on * 8 + 2,none⟩) hob).trans c2
  have j3:=fun o=>((HB.out o).cell (p:=⟨ob,oo + on * 8 + 3,none⟩) hob).trans c3
  have j4:=fun o=>((HB.out o).cell (p:=⟨ob,oo + on * 8 + 4,none⟩) hob).trans c4
  have j5:=fun o=>((HB.out o).cell (p:=⟨ob,oo + on * 8 + 5,none⟩) hob).trans c5
  have j6:=fun o=>((HB.out o).cell (p:=⟨ob,oo + on * 8 + 6,none⟩) hob).trans c6
  have j7:=fun o=>((HB.out o).cell (p:=⟨ob,oo + on * 8 + 7,none⟩) hob).trans c7
  clear h0 c0 c1 c2 c3 c4 c5 c6 c7
  go_wp2_with fail
  go_region
  go_wp2_with fail
  go_ret
  exact ⟨rfl,by first | exact ((((HB.out _).drew).alloc (by have:=(HB.out (.cells #[.int .i64 ek,.int .i64 en,.int .i64 ed,.string N,.slice A m c,.string X,.int .i64 efr,.int .i64 ett] 47)).size;simp at this ⊢) _)) | (trace_state;sorry)⟩
 | true =>
  cases b2 with
  | false =>
   go_enter Tryz.func79,Tryz.ntmps79
   have k0:=fun o=>((HB.out o).cell (p:=⟨cb,0,none⟩) hcb).trans h0
   have j0:=fun o=>((HB.out o).cell (p:=⟨ob,oo + on * 8,none⟩) hob).trans c0
   have j1:=fun o=>((HB.out o).cell (p:=⟨ob,oo + on * 8 + 1,none⟩) hob).trans c1
   have j2:=fun o=>((HB.out o).cell (p:=⟨ob,oo + on * 8 + 2,none⟩) hob).trans c2
   have j3:=fun o=>((HB.out o).cell (p:=⟨ob,oo + on * 8 + 3,none⟩) hob).trans c3
   have j4:=fun o=>((HB.out o).cell (p:=⟨ob,oo + on * 8 + 4,none⟩) hob).trans c4
   have j5:=fun o=>((HB.out o).cell (p:=⟨ob,oo + on * 8 + 5,none⟩) hob).trans c5
   have j6:=fun o=>((HB.out o).cell (p:=⟨ob,oo + on * 8 + 6,none⟩) hob).trans c6
   have j7:=fun o=>((HB.out o).cell (p:=⟨ob,oo + on * 8 + 7,none⟩) hob).trans c7
   clear h0 c0 c1 c2 c3 c4 c5 c6 c7
   go_wp2_with fail
   go_region
   go_wp2_with fail
   go_ret
   exact ⟨rfl,by first | exact ((((HB.out _).drew).alloc (by have:=(HB.out (.cells #[.int .i64 ek,.int .i64 en,.int .i64 ed,.string N,.slice A m c,.string X,.int .i64 efr,.int .i64 ett] 47)).size;simp at this ⊢) _)) | (trace_state;sorry)⟩
  | true =>
   cases b3 with
   | false =>
    go_enter Tryz.func79,Tryz.ntmps79
    have k0:=fun o=>((HB.out o).cell (p:=⟨cb,0,none⟩) hcb).trans h0
    have j0:=fun o=>((HB.out o).cell (p:=⟨ob,oo + on * 8,none⟩) hob).trans c0
    have j1:=fun o=>((HB.out o).cell (p:=⟨ob,oo + on * 8 + 1,none⟩) hob).trans c1
    have j2:=fun o=>((HB.out o).cell (p:=⟨ob,oo + on * 8 + 2,none⟩) hob).trans c2
    have j3:=fun o=>((HB.out o).cell (p:=⟨ob,oo + on * 8 + 3,none⟩) hob).trans c3
    have j4:=fun o=>((HB.out o).cell (p:=⟨ob,oo + on * 8 + 4,none⟩) hob).trans c4
    have j5:=fun o=>((HB.out o).cell (p:=⟨ob,oo + on * 8 + 5,none⟩) hob).trans c5
    have j6:=fun o=>((HB.out o).cell (p:=⟨ob,oo + on * 8 + 6,none⟩) hob).trans c6
    have j7:=fun o=>((HB.out o).cell (p:=⟨ob,oo + on * 8 + 7,none⟩) hob).trans c7
    clear h0 c0 c1 c2 c3 c4 c5 c6 c7
    go_wp2_with fail
    go_region
    go_wp2_with fail
    go_ret
    exact ⟨rfl,by first | exact ((((HB.out _).drew).alloc (by have:=(HB.out (.cells #[.int .i64 ek,.int .i64 en,.int .i64 ed,.string N,.slice A m c,.string X,.int .i64 efr,.int .i64 ett] 47)).size;simp at this ⊢) _)) | (trace_state;sorry)⟩
   | true =>
    cases b4 with
    | false =>
     go_enter Tryz.func79,Tryz.ntmps79
     have k0:=fun o=>((HB.out o).cell (p:=⟨cb,0,none⟩) hcb).trans h0
     have j0:=fun o=>((HB.out o).cell (p:=⟨ob,oo + on * 8,none⟩) hob).trans c0
     have j1:=fun o=>((HB.out o).cell (p:=⟨ob,oo + on * 8 + 1,none⟩) hob).trans c1
     have j2:=fun o=>((HB.out o).cell (p:=⟨ob,oo + on * 8 + 2,none⟩) hob).trans c2
     have j3:=fun o=>((HB.out o).cell (p:=⟨ob,oo + on * 8 + 3,none⟩) hob).trans c3
     have j4:=fun o=>((HB.out o).cell (p:=⟨ob,oo + on * 8 + 4,none⟩) hob).trans c4
     have j5:=fun o=>((HB.out o).cell (p:=⟨ob,oo + on * 8 + 5,none⟩) hob).trans c5
     have j6:=fun o=>((HB.out o).cell (p:=⟨ob,oo + on * 8 + 6,none⟩) hob).trans c6
     have j7:=fun o=>((HB.out o).cell (p:=⟨ob,oo + on * 8 + 7,none⟩) hob).trans c7
     clear h0 c0 c1 c2 c3 c4 c5 c6 c7
     go_wp2_with fail
     go_region
     go_wp2_with fail
     go_ret
     exact ⟨rfl,by first | exact ((((HB.out _).drew).alloc (by have:=(HB.out (.cells #[.int .i64 ek,.int .i64 en,.int .i64 ed,.string N,.slice A m c,.string X,.int .i64 efr,.int .i64 ett] 47)).size;simp at this ⊢) _)) | (trace_state;sorry)⟩
    | true =>
     cases b5 with
     | false =>
      go_enter Tryz.func79,Tryz.ntmps79
      have k0:=fun o=>((HB.out o).cell (p:=⟨cb,0,none⟩) hcb).trans h0
      have j0:=fun o=>((HB.out o).cell (p:=⟨ob,oo + on * 8,none⟩) hob).trans c0
      have j1:=fun o=>((HB.out o).cell (p:=⟨ob,oo + on * 8 + 1,none⟩) hob).trans c1
      have j2:=fun o=>((HB.out o).cell (p:=⟨ob,oo + on * 8 + 2,none⟩) hob).trans c2
      have j3:=fun o=>((HB.out o).cell (p:=⟨ob,oo + on * 8 + 3,none⟩) hob).trans c3
      have j4:=fun o=>((HB.out o).cell (p:=⟨ob,oo + on * 8 + 4,none⟩) hob).trans c4
      have j5:=fun o=>((HB.out o).cell (p:=⟨ob,oo + on * 8 + 5,none⟩) hob).trans c5
      have j6:=fun o=>((HB.out o).cell (p:=⟨ob,oo + on * 8 + 6,none⟩) hob).trans c6
      have j7:=fun o=>((HB.out o).cell (p:=⟨ob,oo + on * 8 + 7,none⟩) hob).trans c7
      clear h0 c0 c1 c2 c3 c4 c5 c6 c7
      go_wp2_with fail
      go_region
      go_wp2_with fail
      go_ret
      exact ⟨rfl,by first | exact ((((HB.out _).drew).alloc (by have:=(HB.out (.cells #[.int .i64 ek,.int .i64 en,.int .i64 ed,.string N,.slice A m c,.string X,.int .i64 efr,.int .i64 ett] 47)).size;simp at this ⊢) _)) | (trace_state;sorry)⟩
     | true =>
      go_enter Tryz.func79,Tryz.ntmps79
      have k0:=fun o=>((HB.out o).cell (p:=⟨cb,0,none⟩) hcb).trans h0
      have j0:=fun o=>((HB.out o).cell (p:=⟨ob,oo + on * 8,none⟩) hob).trans c0
      have j1:=fun o=>((HB.out o).cell (p:=⟨ob,oo + on * 8 + 1,none⟩) hob).trans c1
      have j2:=fun o=>((HB.out o).cell (p:=⟨ob,oo + on * 8 + 2,none⟩) hob).trans c2
      have j3:=fun o=>((HB.out o).cell (p:=⟨ob,oo + on * 8 + 3,none⟩) hob).trans c3
      have j4:=fun o=>((HB.out o).cell (p:=⟨ob,oo + on * 8 + 4,none⟩) hob).trans c4
      have j5:=fun o=>((HB.out o).cell (p:=⟨ob,oo + on * 8 + 5,none⟩) hob).trans c5
      have j6:=fun o=>((HB.out o).cell (p:=⟨ob,oo + on * 8 + 6,none⟩) hob).trans c6
      have j7:=fun o=>((HB.out o).cell (p:=⟨ob,oo + on * 8 + 7,none⟩) hob).trans c7
      clear h0 c0 c1 c2 c3 c4 c5 c6 c7
      go_wp2_with fail
      go_region
      go_wp2_with fail
      go_ret
      exact ⟨rfl,by first | exact ((((HB.out _).drew).alloc (by have:=(HB.out (.cells #[.int .i64 ek,.int .i64 en,.int .i64 ed,.string N,.slice A m c,.string X,.int .i64 efr,.int .i64 ett] 47)).size;simp at this ⊢) _)) | (trace_state;sorry)⟩
end Go.Proofs.YtgjokdngbocehaaGreatDoor
namespace Go.Proofs.YtgjokdngbocehaaGreatDoor
open Go.RowKit
set_option maxRecDepth 1000000 in
set_option maxHeartbeats 4000000 in
theorem take_close (R cb:Nat) (v:Value) (s:BegS) (en ed efr ett:Int) (ename etext:List UInt8) (A:Option Addr) (m c:Nat) (ats:List (List UInt8 × List UInt8)) (w:World) (h:Chk w R cb v s)
  (hb:begOk s ⟨2,en,ed,ename,ats,etext,efr,ett⟩ = true) (hA:AttrsAt w A m ats) :
  Calls Tryz.prog 43 #[.pointer (some ⟨cb,0,none⟩),.agg (evC 2 en ed ename A m c etext efr ett)] w fun e w'=>∃ v',e = .returned (.bool true) ∧ Chk w' R cb v' (begNext s ⟨2,en,ed,ename,ats,etext,efr,ett⟩) ∧ Moved cb v v' w w':=by
 have hb':etext = [] ∧ ats = [] ∧ s.opn.head? = some (en,ed,ename):=by
  unfold begOk at hb
  rw [if_neg (by simp),if_neg (by simp),if_pos rfl] at hb
  simpa only [decide_eq_true_eq] using hb
 obtain ⟨rfl,rfl,hhd⟩:=hb'
 have hm0:m = 0:=hA.1
 subst hm0
 obtain ⟨rest,hr⟩:∃ rest,s.opn = (en,ed,ename) :: rest:=by
  cases ho:s.opn with
  | nil=>rw [ho] at hhd;cases hhd
  | cons a r=>rw [ho] at hhd;simp at hhd;exact ⟨r,by rw [hhd]⟩
 have hlt:=h.lt
 have hle:=h.le
 obtain ⟨s',hs'⟩:∃ s',s' = begNext s ⟨2,en,ed,ename,[],[],efr,ett⟩:=⟨_,rfl⟩
 have HS':Hid (s'.opn = rest ∧ s'.next = s.next ∧ s'.text = false ∧ s'.cnt = s.cnt + 1):=Lib.hid (by rw [hs'];exact ⟨by simp [begNext,hr],by simp [begNext],by simp [begNext],rfl⟩)
 rw [← hs']
 clear hs' hb hhd
 obtain ⟨on,hon⟩:∃ on,rest.length = on:=⟨_,rfl⟩
 have hown:=h.own
 rw [hr,List.length_cons,hon] at hown
 obtain ⟨g,oc,rfl,hoc,hRg,hgw,_,hcells⟩:=own_some hown
 have hcell:∀ j,j < 8 → w.cell? ⟨g,0 + on * 8 + j,none⟩ = (ckRow (en,ed,ename))[j]?:=fun j hj=>by
  have h1:(ckRow (en,ed,ename)).length = 8:=rfl
  have h2:=ckC_top (en,ed,ename) rest j hj
  rw [hon] at h2
  rw [Nat.zero_add,List.getElem?_eq_getElem (by rw [h1];exact hj)]
  exact hcells _ _ (by rw [h2,List.getElem?_eq_getElem (by rw [h1];exact hj)])
 have hat:=h.at'
 have hdone:decide (s.opn = [] ∧ s.cnt ≠ 0) = false:=by rw [hr];simp
 rw [hdone] at hat
 have c0:=cell_heap (i:=0) hat
 have c1:=cell_heap (i:=1) hat
 have c2:=cell_heap (i:=2) hat
 have c3:=cell_heap (i:=3) hat
 simp only [List.getElem?_toArray,List.getElem?_cons_zero,List.getElem?_cons_succ] at c0 c1 c2 c3
 have hcbw:cb < w.heap.size:=by omega
 have hsm:=h.sm
 have hsml:on + 1 ≤ 1048576:=by have:=hsm.1;rw [hr,List.length_cons,hon] at this;exact this
 have HCL:Hid (∀ W,Below w.heap.size w W → Calls Tryz.prog 79 #[.pointer (some ⟨cb,0,none⟩),.agg (evC 2 en ed ename A 0 c [] efr ett)] W fun e w'=>e = .returned (.bool true) ∧ Below W.heap.size W w'):=Lib.hid fun W hW=>by
  have k:=fun j (hj:j < 8)=>(hW.cell (p:=⟨g,0 + on * 8 + j,none⟩) hgw).trans (hcell j hj)
  have:=closes_any cb g 0 on oc en ed ename 2 en ed efr ett ename [] A 0 c W ((hW.cell (p:=⟨cb,0,none⟩) hcbw).trans c0) (Nat.lt_of_lt_of_le hcbw hW.size) (Nat.lt_of_lt_of_le hgw hW.size) (by omega) (k 0 (by decide)) (k 1 (by decide)) (k 2 (by decide)) (k 3 (by decide)) (k 4 (by decide)) (k 5 (by decide)) (k 6 (by decide)) (k 7 (by decide))
  have hcl:closeB en ed ename en ed ename [] 0 = true:=by simp [closeB]
  rw [hcl] at this
  exact this
 have HH:=Lib.hid h
 have HAT:=Lib.hid hat
 have HOW:=Lib.hid hown
 unfold evC at *
 generalize strL [] = X at *
 generalize strL ename = N at *
 have HN1:Hid (∀ o,Below w.heap.size w (w.alloc o) ∧ (w.alloc o).heap[w.heap.size]? = some o ∧ (w.alloc o).heap.size = w.heap.size + 1):=Lib.hid fun o=>⟨(Below.refl w.heap.size w).alloc (Nat.le_refl _) _,heap_alloc_new w _,by simp⟩
 have k3:=fun o=>((HN1.out o).1.cell (p:=⟨cb,3,none⟩) hcbw).trans c3
 have HCBW:=Lib.hid hcbw
 have HC:=Lib.hid (⟨c0,c1,c2,c3⟩:_ ∧ _ ∧ _ ∧ _)
 have HHL:=Lib.hid hle
 have HLT:=Lib.hid hlt
 have HR:=Lib.hid hr
 have HG:=Lib.hid (⟨hRg,hgw⟩:_ ∧ _)
 have HON:=Lib.hid hon
 clear hat hdone hA c0 c1 c2 c3 hcbw hle hlt hr hown hcells hcell hRg hgw h hon
 have ew:IntKind.i64.wrap ((on:Int) + 1 - 1) = (on:Int):=by rw [IntWalk.i64_in _ (by omega)];omega
 go_enter Tryz.func43,Tryz.ntmps43
 go_wp2_with fail
 (with_reducible refine (HCL.out _ (HN1.out _).1).mono ?_)
 rintro e w2 ⟨rfl,hb2⟩
 have HB:=Lib.hid ((HN1.out _).1.trans (hb2.mono (HN1.out _).1.size))
 have HEB:=Lib.hid ((hb2.block w.heap.size (by rw [(HN1.out _).2.2];omega)).trans (HN1.out _).2.1)
 have HCB:=Lib.hid ((HB.out.block cb HCBW.out).trans HAT.out)
 have c0:=(HB.out.cell (p:=⟨cb,0,none⟩) HCBW.out).trans HC.out.1
 have c2:=(HB.out.cell (p:=⟨cb,2,none⟩) HCBW.out).trans HC.out.2.2.1
 have c3:=(HB.out.cell (p:=⟨cb,3,none⟩) HCBW.out).trans HC.out.2.2.2
 have fz:∀ j,w2.frozen? ⟨cb,j,none⟩ = false:=fun j=>frozen_heap HCB.out
 have e0:w2.cell? ⟨w.heap.size,0,none⟩ = some (.int .i64 2):=by rw [cell_heap HEB.out];rfl
 have hebcb:cb ≠ w.heap.size:=Nat.ne_of_lt HCBW.out
 clear k3 hb2
 go_wp2_with fail
 go_region
 go_wp2_with fail
 go_ret
 obtain ⟨q1,q2,q3,q4⟩:=HS'.out
 have hM:=(((Moved.of (cb:=cb) (v:=.slice (some ⟨g,0,none⟩) (on + 1) oc) HB.out).set 2 (.bool false)).set 0 (.slice (some ⟨g,0,none⟩) on oc))
 refine ⟨.slice (some ⟨g,0,none⟩) on oc,rfl,⟨HLT.out,?_,?_,?_,?_,?_⟩,?_⟩
 ·have:=HB.out.size
  have:=HHL.out
  simp [World.setCell]
  omega
 ·have hd:decide (s'.opn = [] ∧ s'.cnt ≠ 0) = ((on:Int) == 0):=by
   rw [q1,q4,← HON.out]
   cases rest with
   | nil=>simp
   | cons a r=>simp;omega
  rw [q2,q3,hd]
  exact setCell_heap (setCell_heap (setCell_heap HCB.out (.bool false)) (.slice (some ⟨g,0,none⟩) on oc)) (.bool ((on:Int) == 0))
 ·rw [q1,HON.out]
  have h0:=HOW.out
  rw [ckC_cons] at h0
  have h1:=own_pop h0 (by rw [ckC_length,HON.out])
  exact own_block h1 (fun k hk=>by
   have hk2:k ≠ cb:=fun e=>by have:=(h1.lt k hk).1;have:=HLT.out;omega
   show (((w2.setCell _ _).setCell _ _).setCell _ _).heap[k]? = _
   rw [Below.heap_setCell _ _ _ _ hk2,Below.heap_setCell _ _ _ _ hk2,Below.heap_setCell _ _ _ _ hk2]
   exact HB.out.block k (h1.lt k hk).2)
 ·rw [q4];intro h;omega
 ·rw [q1,q2,HON.out];omega
 ·have hM2:=(hM.set 3 (.bool ((on:Int) == 0))).drewN 1
  exact ⟨hM2.os,hM2.tape,hM2.output,hM2.size,hM2.block,.inl rfl⟩
end Go.Proofs.YtgjokdngbocehaaGreatDoor
namespace Go.Proofs.YtgjokdngbocehaaGreatDoor
open Go.RowKit
def EvSm (e:Ev):Prop:=e.name.length ≤ 1048576 ∧ e.text.length ≤ 1048576 ∧ e.ats.length ≤ 1048576 ∧ ∀ p ∈ e.ats,p.1.length ≤ 1048576 ∧ p.2.length ≤ 1048576
theorem take_ok (R cb:Nat) (v:Value) (s:BegS) (e:Ev) (A:Option Addr) (m c:Nat) (w:World) (h:Chk w R cb v s) (hb:begOk s e = true) (hA:AttrsAt w A m e.ats) (hsm:EvSm e)
  (hcap:s.opn.length < 1048576 ∧ s.next < 1048576) (hR:RangesAt w 2) (hT:Lib.Utf8Tabs 0 1 w) :
  Calls Tryz.prog 43 #[.pointer (some ⟨cb,0,none⟩),.agg (evC e.kind e.num e.dep e.name A m c e.text e.fr e.tt)] w fun r w'=>∃ v',r = .returned (.bool true) ∧ Chk w' R cb v' (begNext s e) ∧ Moved cb v v' w w':=by
 obtain ⟨kd,num,dep,name,ats,text,fr,tt⟩:=e
 obtain ⟨s1,s2,s3,s4⟩:=hsm
 simp only at *
 by_cases h2:kd = 2
 ·subst h2
  exact take_close R cb v s num dep fr tt name text A m c ats w h hb hA
 ·rcases (begOk_new hb h2).2 with h0 | h1
  ·simp only at h0
   subst h0
   exact take_open R cb v s num dep fr tt name text A m c ats w h hb hA s1 s4 (by rw [hA.1];exact s3) hcap hR hT
  ·simp only at h1
   subst h1
   exact take_text R cb v s num dep fr tt name text A m c ats w h hb hA s2 hcap.2 hR hT
theorem infoInt:(Tryz.prog.info? 3).map (fun i=>(i.zero,i.size,i.bytes)) = some (some (.int .i64 0),1,8):=by kernel_rfl
end Go.Proofs.YtgjokdngbocehaaGreatDoor
namespace Go.Proofs.YtgjokdngbocehaaGreatDoor
open Go.RowKit
structure RN where
 pos:Nat
 par:Int
 last:Int
 clo:Int
 val:List UInt8
def rnOpen (e:Ev) (r:RN):RN:=⟨r.pos,r.par,e.num,r.clo,r.val ++ e.text⟩
def rnClo (k:Int) (r:RN):RN:=⟨r.pos,r.par,r.last,k,r.val⟩
def rnOpens (e:Ev):List Int → List RN → List RN
 | [],rs=>rs
 | o :: l,rs=>rnOpens e l (rs.modify o.toNat (rnOpen e))
def opnsOf (s:BegS):List Int:=s.opn.reverse.map (·.1)
def rnNew (s:BegS) (e:Ev):RN:=⟨s.cnt,topOf s.opn,e.num,-1,e.text⟩
def rnNext (s:BegS) (rs:List RN) (e:Ev):List RN :=
 if e.kind = 2 then rs.modify e.num.toNat (rnClo s.cnt)
 else if e.kind = 0 then rnOpens e (opnsOf s) (rs ++ [rnNew s e])
 else (rnOpens e (opnsOf s) (rs ++ [rnNew s e])).modify e.num.toNat (rnClo s.cnt)
def rnAll:BegS → List RN → List Ev → List RN
 | _,rs,[]=>rs
 | s,rs,e :: l=>rnAll (begNext s e) (rnNext s rs e) l
theorem rnAll_snoc (s:BegS) (rs:List RN) (l:List Ev) (e:Ev) {t:BegS} (h:begAll s l = some t):rnAll s rs (l ++ [e]) = rnNext t (rnAll s rs l) e:=by
 induction l generalizing s rs with
 | nil=>simp only [begAll,Option.some.injEq] at h;subst h;rfl
 | cons x l ih =>
  unfold begAll at h
  split at h
  ·exact ih _ _ h
  ·cases h
theorem rnOpens_get (e:Ev):∀ (l:List Int) (rs:List RN) (j:Nat),(∀ o ∈ l,0 ≤ o) → l.Nodup → (rnOpens e l rs)[j]? = (rs[j]?).map (fun r=>if (j:Int) ∈ l then rnOpen e r else r)
 | [],rs,j,_,_=>by simp [rnOpens]
 | o :: l,rs,j,h0,hn=>by
  have hn':=List.nodup_cons.1 hn
  have ho:=h0 o List.mem_cons_self
  unfold rnOpens
  rw [rnOpens_get e l _ j (fun x hx=>h0 x (List.mem_cons_of_mem _ hx)) hn'.2,List.getElem?_modify]
  cases hr:rs[j]? with
  | none=>simp
  | some r =>
   simp only [Option.map_some]
   by_cases hj:o.toNat = j
   ·have hoj:(j:Int) = o:=by omega
    rw [hoj]
    simp [hn'.1,hj]
   ·have hoj:(j:Int) ≠ o:=by omega
    simp [hj,hoj]
theorem rnOpens_length (e:Ev):∀ (l:List Int) (rs:List RN),(rnOpens e l rs).length = rs.length
 | [],_=>rfl
 | o :: l,rs=>by unfold rnOpens;rw [rnOpens_length e l];simp
def txO (pre:List Ev) (nds:List Nd) (j:Nat):List UInt8:=((nds[j]?.bind fun x=>pre[x.pos]?).map (·.text)).getD []
def txsO (pre:List Ev) (nds:List Nd) (i hi:Nat):List UInt8:=(List.range' i (hi - i)).flatMap (txO pre nds)
theorem txsO_congr {pre pre':List Ev} {nds nds':List Nd} {i hi:Nat} (h:∀ j,i ≤ j → j < hi → txO pre nds j = txO pre' nds' j):txsO pre nds i hi = txsO pre' nds' i hi:=by
 unfold txsO
 have:∀ (l:List Nat),(∀ j ∈ l,txO pre nds j = txO pre' nds' j) → l.flatMap (txO pre nds) = l.flatMap (txO pre' nds'):=by
  intro l hl
  induction l with
  | nil=>rfl
  | cons a l ih=>rw [List.flatMap_cons,List.flatMap_cons,hl a List.mem_cons_self,ih (fun j hj=>hl j (List.mem_cons_of_mem _ hj))]
 refine this _ (fun j hj=>?_)
 rw [List.mem_range'_1] at hj
 exact h j hj.1 (by omega)
theorem txsO_succ (pre:List Ev) (nds:List Nd) {i k:Nat} (h:i ≤ k):txsO pre nds i (k + 1) = txsO pre nds i k ++ txO pre nds k:=by
 unfold txsO
 rw [show k + 1 - i = k - i + 1 by omega,List.range'_concat,List.flatMap_append]
 simp only [List.flatMap_cons,List.flatMap_nil,List.append_nil,Nat.one_mul]
 rw [show i + (k - i) = k by omega]
theorem txsO_nil (pre:List Ev) (nds:List Nd) {i:Nat}:txsO pre nds i i = []:=by unfold txsO;simp
structure RSpec (pre:List Ev) (s:BegS) (nds:List Nd) (rs:List RN):Prop where
 len:rs.length = nds.length
 at':∀ (i:Nat) (x:Nd),nds[i]? = some x → ∃ r,rs[i]? = some r ∧ r.pos = x.pos ∧ r.par = x.par ∧
  (isOpn s i → r.last = (nds.length:Int) - 1 ∧ r.clo = -1 ∧ r.val = txsO pre nds i nds.length) ∧
  (¬ isOpn s i → r.last = x.last ∧ r.clo = (x.fin:Int) - 1 ∧ r.val = txsO pre nds i (x.last.toNat + 1))
theorem RSpec.start:RSpec [] beg0 [] []:=⟨rfl,fun i x h=>by simp at h⟩
theorem opns_nodup {pre:List Ev} {s:BegS} {nds:List Nd} (h:NdInv pre s nds):(opnsOf s).Nodup ∧ (∀ o ∈ opnsOf s,0 ≤ o ∧ o < (nds.length:Int)) ∧ ∀ i:Int,i ∈ opnsOf s ↔ isOpn s i:=by
 refine ⟨?_,?_,?_⟩
 ·unfold opnsOf
  rw [List.Nodup,List.pairwise_map,List.pairwise_reverse]
  exact h.srt.imp (fun hab=>by omega)
 ·intro o ho
  unfold opnsOf at ho
  obtain ⟨x,hx,rfl⟩:=List.mem_map.1 ho
  have:=h.opn x (List.mem_reverse.1 hx)
  have hn:=h.nxt
  omega
 ·intro i
  unfold opnsOf isOpn
  rw [List.mem_map]
  constructor
  ·rintro ⟨x,hx,rfl⟩;exact ⟨x,List.mem_reverse.1 hx,rfl⟩
  ·rintro ⟨x,hx,rfl⟩;exact ⟨x,List.mem_reverse.2 hx,rfl⟩
theorem RSpec.step {pre:List Ev} {s:BegS} {nds:List Nd} {rs:List RN} {e:Ev} (hi:NdInv pre s nds) (hl:NdLast nds) (h:RSpec pre s nds rs) (he:begOk s e = true):RSpec (pre ++ [e]) (begNext s e) (ndNext s nds e) (rnNext s rs e):=by
 have hnx:=hi.nxt
 have hcnt:=hi.cnt
 by_cases hk:e.kind = 2
 ·have hh:=begOk_close he hk
  obtain ⟨rest,hr⟩:∃ rest,s.opn = (e.num,e.dep,e.name) :: rest:=by
   cases ho:s.opn with
   | nil=>rw [ho] at hh;cases hh
   | cons a r=>rw [ho] at hh;simp at hh;exact ⟨r,by rw [hh]⟩
  have hnum:=hi.opn _ (by rw [hr];exact List.mem_cons_self)
  simp only at hnum
  have hop:(begNext s e).opn = rest:=by unfold begNext;simp [hk,hr]
  have hsrt:=hi.srt
  rw [hr] at hsrt
  have hp:=List.pairwise_cons.1 hsrt
  have hopn:∀ i,isOpn s i ↔ i = e.num ∨ isOpn (begNext s e) i:=by
   intro i
   unfold isOpn
   rw [hop,hr]
   constructor
   ·rintro ⟨o,ho,rfl⟩
    rcases List.mem_cons.1 ho with rfl | ho
    ·exact .inl rfl
    ·exact .inr ⟨o,ho,rfl⟩
   ·rintro (rfl | ⟨o,ho,rfl⟩)
    ·exact ⟨_,List.mem_cons_self,rfl⟩
    ·exact ⟨o,List.mem_cons_of_mem _ ho,rfl⟩
  have hnot:¬ isOpn (begNext s e) e.num:=by
   rintro ⟨o,ho,hoe⟩
   rw [hop] at ho
   have:=hp.1 o ho
   simp only at this
   omega
  have hlen:(ndNext s nds e).length = nds.length:=by unfold ndNext;rw [if_pos hk,List.length_modify]
  have hm:∀ (n:Nat) (x:Nd),(ndNext s nds e)[n]? = some x → ∃ y,nds[n]? = some y ∧ x.pos = y.pos ∧ x.par = y.par ∧ (((n:Int) = e.num ∧ x.last = (nds.length:Int) - 1 ∧ x.fin = s.cnt + 1) ∨ ((n:Int) ≠ e.num ∧ x.last = y.last ∧ x.fin = y.fin)):=by
   intro n x hx
   unfold ndNext at hx
   rw [if_pos hk,List.getElem?_modify] at hx
   cases hy:nds[n]? with
   | none=>rw [hy] at hx;simp at hx
   | some y =>
    rw [hy] at hx
    by_cases hn:e.num.toNat = n
    ·simp [hn] at hx;subst hx;exact ⟨y,rfl,rfl,rfl,.inl ⟨by omega,rfl,rfl⟩⟩
    ·simp [hn] at hx;subst hx;exact ⟨y,rfl,rfl,rfl,.inr ⟨by omega,rfl,rfl⟩⟩
  have htx:∀ j,txO pre nds j = txO (pre ++ [e]) (ndNext s nds e) j:=by
   intro j
   unfold txO
   cases hx:(ndNext s nds e)[j]? with
   | none =>
    have hge:=List.getElem?_eq_none_iff.1 hx
    rw [hlen] at hge
    rw [List.getElem?_eq_none hge]
    rfl
   | some x =>
    obtain ⟨y,hy,hpos,_⟩:=hm j x hx
    have hrg:=hi.rng j y hy
    rw [hy]
    simp only [Option.bind_some,hpos]
    rw [List.getElem?_append_left (by omega)]
  have hrn:rnNext s rs e = rs.modify e.num.toNat (rnClo s.cnt):=by unfold rnNext;rw [if_pos hk]
  refine ⟨by rw [hrn,List.length_modify,hlen];exact h.len,fun i x' hx'=>?_⟩
  obtain ⟨x,hx,hpos,hpar,hc⟩:=hm i x' hx'
  obtain ⟨r,hr0,h1,h2,h3,h4⟩:=h.at' i x hx
  rw [hrn,List.getElem?_modify,hr0,hlen]
  rcases hc with ⟨hin,hla,hfi⟩ | ⟨hin,hla,hfi⟩
  ·have hin':e.num.toNat = i:=by omega
   obtain ⟨k1,k2,k3⟩:=h3 ((hopn _).2 (.inl hin))
   refine ⟨rnClo s.cnt r,by simp [hin'],by rw [hpos];exact h1,by rw [hpar];exact h2,fun ho=>absurd (hin ▸ ho) hnot,fun _=>⟨by rw [hla];exact k1,by rw [hfi];simp [rnClo],?_⟩⟩
   show r.val = _
   have hil:=get_lt hx
   rw [k3,hla,show ((nds.length:Int) - 1).toNat + 1 = nds.length by omega]
   exact txsO_congr (fun j _ _=>htx j)
  ·have hin':e.num.toNat ≠ i:=by omega
   refine ⟨r,by simp [hin'],by rw [hpos];exact h1,by rw [hpar];exact h2,fun ho=>?_,fun ho=>?_⟩
   ·obtain ⟨k1,k2,k3⟩:=h3 ((hopn _).2 (.inr ho))
    exact ⟨k1,k2,by rw [k3];exact txsO_congr (fun j _ _=>htx j)⟩
   ·obtain ⟨k1,k2,k3⟩:=h4 (fun hc=>by
     rcases (hopn _).1 hc with h5 | h5
     ·exact hin h5
     ·exact ho h5)
    exact ⟨by rw [hla];exact k1,by rw [hfi];exact k2,by rw [k3,hla];exact txsO_congr (fun j _ _=>htx j)⟩
 ·obtain ⟨hn,hk01⟩:=begOk_new he hk
  have hnd:ndNext s nds e = nds ++ [⟨s.cnt,topOf s.opn,e.num,s.cnt + 1⟩]:=by unfold ndNext;rw [if_neg hk];rfl
  have hopn:∀ i,isOpn (begNext s e) i ↔ isOpn s i ∨ (e.kind = 0 ∧ i = (nds.length:Int)):=by
   intro i
   unfold isOpn begNext
   simp only [hk,if_false]
   by_cases h0:e.kind = 0
   ·simp only [h0,if_true,true_and]
    constructor
    ·rintro ⟨o,ho,rfl⟩
     rcases List.mem_cons.1 ho with rfl | ho
     ·exact .inr (by simp only;omega)
     ·exact .inl ⟨o,ho,rfl⟩
    ·rintro (⟨o,ho,rfl⟩ | rfl)
     ·exact ⟨o,List.mem_cons_of_mem _ ho,rfl⟩
     ·exact ⟨_,List.mem_cons_self,by simp only;omega⟩
   ·simp [h0]
  obtain ⟨hnod,hb,hmem⟩:=opns_nodup hi
  have htx:∀ j,j < nds.length → txO pre nds j = txO (pre ++ [e]) (ndNext s nds e) j:=by
   intro j hj
   unfold txO
   rw [hnd,List.getElem?_append_left hj,List.getElem?_eq_getElem hj]
   have hrg:=hi.rng j _ (List.getElem?_eq_getElem hj)
   simp only [Option.bind_some]
   rw [List.getElem?_append_left (by omega)]
  have htl:txO (pre ++ [e]) (ndNext s nds e) nds.length = e.text:=by
   unfold txO
   rw [hnd,get_last]
   simp only [Option.bind_some,hcnt,get_last,Option.map_some,Option.getD_some]
  have hlen':(ndNext s nds e).length = nds.length + 1:=by rw [hnd];simp
  have hget:∀ j:Nat,(rnOpens e (opnsOf s) (rs ++ [rnNew s e]))[j]? = ((rs ++ [rnNew s e])[j]?).map (fun r=>if (j:Int) ∈ opnsOf s then rnOpen e r else r):=fun j=>rnOpens_get e _ _ j (fun o ho=>(hb o ho).1) hnod
  have hrsl:=h.len
  have hfin:∀ (j:Nat) (r:RN),j < nds.length → (rnOpens e (opnsOf s) (rs ++ [rnNew s e]))[j]? = some r → (rnNext s rs e)[j]? = some r:=by
   intro j r hj hr
   unfold rnNext
   rw [if_neg hk]
   split
   ·exact hr
   ·rw [List.getElem?_modify,hr]
    have:e.num.toNat ≠ j:=by omega
    simp [this]
  refine ⟨?_,fun i x hx=>?_⟩
  ·rw [hlen']
   unfold rnNext
   rw [if_neg hk]
   split
   ·rw [rnOpens_length];simp [hrsl]
   ·rw [List.length_modify,rnOpens_length];simp [hrsl]
  ·rw [hnd] at hx
   rw [hlen']
   rcases snoc_get hx with ⟨hil,hx⟩ | ⟨hil,rfl⟩
   ·obtain ⟨r,hr0,h1,h2,h3,h4⟩:=h.at' i x hx
    have hg:=hget i
    rw [List.getElem?_append_left (by omega),hr0] at hg
    simp only [Option.map_some] at hg
    by_cases ho:isOpn s i
    ·rw [if_pos ((hmem _).2 ho)] at hg
     obtain ⟨k1,k2,k3⟩:=h3 ho
     refine ⟨_,hfin i _ hil hg,h1,h2,fun _=>⟨?_,k2,?_⟩,fun hno=>absurd ((hopn _).2 (.inl ho)) hno⟩
     ·show e.num = _
      omega
     ·show r.val ++ e.text = _
      rw [txsO_succ _ _ (by omega),htl,k3]
      congr 1
      exact txsO_congr (fun j _ hj=>htx j hj)
    ·rw [if_neg (fun hc=>ho ((hmem _).1 hc))] at hg
     obtain ⟨k1,k2,k3⟩:=h4 ho
     refine ⟨_,hfin i _ hil hg,h1,h2,fun ho'=>?_,fun _=>⟨k1,k2,?_⟩⟩
     ·rcases (hopn _).1 ho' with h5 | ⟨_,h5⟩
      ·exact absurd h5 ho
      ·omega
     ·rw [k3]
      have:=(hl i x hx)
      exact txsO_congr (fun j _ hj=>htx j (by omega))
   ·subst hil
    have hg:=hget nds.length
    rw [← hrsl,get_last] at hg
    simp only [Option.map_some] at hg
    rw [if_neg (fun hc=>by have:=(hb _ hc).2;omega),hrsl] at hg
    have hen:e.num.toNat = nds.length:=by omega
    have hv:e.text = txsO (pre ++ [e]) (ndNext s nds e) nds.length (nds.length + 1):=by
     rw [txsO_succ _ _ (Nat.le_refl _),txsO_nil,htl];rfl
    by_cases h0:e.kind = 0
    ·refine ⟨rnNew s e,?_,rfl,rfl,fun _=>⟨?_,rfl,hv⟩,fun hno=>absurd ((hopn _).2 (.inr ⟨h0,rfl⟩)) hno⟩
     ·unfold rnNext
      rw [if_neg hk,if_pos h0];exact hg
     ·show e.num = _
      omega
    ·refine ⟨rnClo s.cnt (rnNew s e),?_,rfl,rfl,fun ho=>?_,fun _=>⟨rfl,?_,?_⟩⟩
     ·unfold rnNext
      rw [if_neg hk,if_neg h0,List.getElem?_modify,hg]
      simp [hen]
     ·rcases (hopn _).1 ho with ⟨o,ho',hoe⟩ | ⟨h5,_⟩
      ·have:=hi.opn o ho'
       omega
      ·exact absurd h5 h0
     ·show (s.cnt:Int) = ((s.cnt + 1:Nat):Int) - 1
      omega
     ·show e.text = _
      rw [hen]
      exact hv
theorem RSpec.all {pre:List Ev} {s:BegS} {nds:List Nd} {rs:List RN} (hi:NdInv pre s nds) (hl:NdLast nds) (h:RSpec pre s nds rs):∀ (l:List Ev) {t:BegS},begAll s l = some t → RSpec (pre ++ l) t (ndAll s nds l) (rnAll s rs l):=by
 intro l
 induction l generalizing pre s nds rs with
 | nil=>intro t ht;simp only [begAll,Option.some.injEq] at ht;subst ht;simpa [ndAll,rnAll] using h
 | cons e l ih =>
  intro t ht
  unfold begAll at ht
  split at ht
  ·rename_i he
   have:=ih (hi.step he) (hl.step hi he) (h.step hi hl he) ht
   simpa [ndAll,rnAll] using this
  ·cases ht
theorem rnAll_spec {l:List Ev} {t:BegS} (h:begAll beg0 l = some t):RSpec l t (nodesB l) (rnAll beg0 [] l):=by
 have:=RSpec.all NdInv.start (fun n x hx=>by simp at hx) RSpec.start l h
 simpa [nodesB] using this
end Go.Proofs.YtgjokdngbocehaaGreatDoor
namespace Go.Proofs.YtgjokdngbocehaaGreatDoor
def KEnd (g f:Nat → Int) (n k:Nat):Prop:=k ≤ n ∧ ∀ i,i < k → g (n - k + i) = f i
def KLong (g f:Nat → Int) (L n k:Nat):Prop:=KEnd g f n k ∧ ∀ j,j ≤ L → KEnd g f n j → j ≤ k
def KBord (f:Nat → Int) (m b:Nat):Prop:=KLong (fun i=>f (i + 1)) f m m b
def KTry (g f:Nat → Int) (L n k:Nat) (c:Int):Prop:=KEnd g f n k ∧ ∀ j,j < L → KEnd g f n j → f j = c → j ≤ k
theorem KEnd.zero (g f:Nat → Int) (n:Nat):KEnd g f n 0:=⟨Nat.zero_le _,fun _ h=>absurd h (Nat.not_lt_zero _)⟩
theorem KLong.zero (g f:Nat → Int) (L:Nat):KLong g f L 0 0:=⟨KEnd.zero ..,fun _ _ h=>h.1⟩
theorem KLong.try' {g f:Nat → Int} {L n k:Nat} (c:Int) (h:KLong g f L n k):KTry g f L n k c :=
 ⟨h.1,fun j hj hm _=>h.2 j (Nat.le_of_lt hj) hm⟩
theorem KEnd.border {g f:Nat → Int} {n k b:Nat} (hk:KEnd g f n (k + 1)) (hb:KEnd (fun i=>f (i + 1)) f k b):KEnd g f n b:=by
 refine ⟨Nat.le_trans hb.1 (by have:=hk.1;omega),fun i hi=>?_⟩
 have h1:=hb.2 i hi
 have h2:=hk.2 (k - b + i + 1) (by have:=hb.1;omega)
 have e:n - (k + 1) + (k - b + i + 1) = n - b + i:=by have:=hk.1;have:=hb.1;omega
 rw [e] at h2;exact h2.trans h1
theorem KEnd.inner {g f:Nat → Int} {n k j:Nat} (hk:KEnd g f n (k + 1)) (hj:KEnd g f n j) (hjk:j ≤ k):KEnd (fun i=>f (i + 1)) f k j:=by
 refine ⟨hjk,fun i hi=>?_⟩
 have h1:=hj.2 i hi
 have h2:=hk.2 (k - j + i + 1) (by omega)
 have e:n - (k + 1) + (k - j + i + 1) = n - j + i:=by have:=hk.1;omega
 rw [e] at h2;exact h2.symm.trans h1
theorem KTry.back {g f:Nat → Int} {L n k b:Nat} {c:Int} (h:KTry g f L n (k + 1) c) (hne:f (k + 1) ≠ c) (hb:KBord f k b):KTry g f L n b c:=by
 refine ⟨h.1.border hb.1,fun j hj hm hc=>?_⟩
 have h1:=h.2 j hj hm hc
 have h2:j ≠ k + 1:=fun e=>hne (e ▸ hc)
 have h3:j ≤ k:=by omega
 exact hb.2 j h3 (h.1.inner hm h3)
theorem KEnd.pred {g f:Nat → Int} {n j:Nat} (h:KEnd g f (n + 1) (j + 1)):KEnd g f n j ∧ f j = g n:=by
 have h0:=h.1
 refine ⟨⟨by omega,fun i hi=>?_⟩,?_⟩
 ·have:=h.2 i (by omega)
  have e:n + 1 - (j + 1) + i = n - j + i:=by omega
  rwa [e] at this
 ·have:=h.2 j (by omega)
  have e:n + 1 - (j + 1) + j = n:=by omega
  rw [e] at this;exact this.symm
theorem KEnd.succ {g f:Nat → Int} {n k:Nat} (h:KEnd g f n k) (hc:f k = g n):KEnd g f (n + 1) (k + 1):=by
 have h0:=h.1
 refine ⟨by omega,fun i hi=>?_⟩
 have e:n + 1 - (k + 1) + i = n - k + i:=by omega
 rw [e]
 rcases Nat.lt_or_ge i k with hi' | hi'
 ·exact h.2 i hi'
 ·have:i = k:=by omega
  subst this
  have e2:n - i + i = n:=by omega
  rw [e2];exact hc.symm
theorem KTry.goes {g f:Nat → Int} {L n k:Nat} (h:KTry g f L n k (g n)) (hc:f k = g n):KLong g f L (n + 1) (k + 1):=by
 refine ⟨h.1.succ hc,fun j hj hm=>?_⟩
 cases j with
 | zero=>omega
 | succ j=>have:=hm.pred;have:=h.2 j (by omega) this.1 this.2;omega
theorem KTry.none' {g f:Nat → Int} {L n:Nat} (h:KTry g f L n 0 (g n)) (hc:f 0 ≠ g n):KLong g f L (n + 1) 0:=by
 refine ⟨KEnd.zero ..,fun j hj hm=>?_⟩
 cases j with
 | zero=>omega
 | succ j =>
  have hp:=hm.pred
  have:=h.2 j (by omega) hp.1 hp.2
  have:j = 0:=by omega
  subst this;exact absurd hp.2 hc
theorem KBord.one (f:Nat → Int):KBord f 0 0:=KLong.zero ..
theorem KBord.try' {f:Nat → Int} {m b:Nat} (c:Int) (h:KBord f m b):KTry (fun i=>f (i + 1)) f (m + 1) m b c :=
 ⟨h.1,fun j hj hm _=>h.2 j (by omega) hm⟩
theorem KBord.goes {f:Nat → Int} {m k:Nat} (h:KTry (fun i=>f (i + 1)) f (m + 1) m k (f (m + 1))) (hc:f k = f (m + 1)):KBord f (m + 1) (k + 1) :=
 KTry.goes h hc
theorem KBord.none' {f:Nat → Int} {m:Nat} (h:KTry (fun i=>f (i + 1)) f (m + 1) m 0 (f (m + 1))) (hc:f 0 ≠ f (m + 1)):KBord f (m + 1) 0 :=
 KTry.none' h hc
def KStands (g f:Nat → Int) (L n p:Nat):Prop:=p + L ≤ n ∧ ∀ i,i < L → g (p + i) = f i
theorem KStands.ends {g f:Nat → Int} {L n p:Nat} (h:KStands g f L n p):KEnd g f (p + L) L :=
 ⟨by omega,fun i hi=>by
  have e:p + L - L + i = p + i:=by omega
  rw [e];exact h.2 i hi⟩
theorem kstands_next {g f:Nat → Int} {L n k:Nat} (h:KLong g f L (n + 1) k) (hk:k < L) (hno:∀ p,¬ KStands g f L n p):∀ p,¬ KStands g f L (n + 1) p:=fun p hp=>by
 rcases Nat.lt_or_ge (p + L) (n + 1) with hl | hl
 ·exact hno p ⟨by omega,hp.2⟩
 ·have e:p + L = n + 1:=by have:=hp.1;omega
  have:=h.2 L (Nat.le_refl _) (e ▸ hp.ends);omega
theorem kstands_found {g f:Nat → Int} {L n N:Nat} (h:KLong g f L (n + 1) L) (hN:n + 1 ≤ N) (hno:∀ p,¬ KStands g f L n p):KStands g f L N (n + 1 - L) ∧ ∀ p,p < n + 1 - L → ¬ KStands g f L N p:=by
 have h0:=h.1.1
 refine ⟨⟨by omega,h.1.2⟩,fun p hp hs=>hno p ⟨by omega,hs.2⟩⟩
theorem kstands_start {g f:Nat → Int} {L:Nat} (hL:0 < L):∀ p,¬ KStands g f L 0 p:=fun p hp=>by have:=hp.1;omega
def kfind (stands:Nat → Bool) (p:Nat):Nat → Int
 | 0=>if stands p then (p:Int) else -1
 | n + 1=>if stands p then (p:Int) else kfind stands (p + 1) n
theorem kfind_found {stands:Nat → Bool} {a:Nat} (ha:stands a = true):∀ (n p:Nat),p ≤ a → a ≤ p + n → (∀ q,p ≤ q → q < a → stands q = false) → kfind stands p n = (a:Int):=by
 intro n
 induction n with
 | zero=>intro p h1 h2 _;have:p = a:=by omega
         subst this;simp [kfind,ha]
 | succ n ih =>
  intro p h1 h2 h3
  rcases Nat.lt_or_ge p a with hl | hl
  ·simp only [kfind,h3 p (Nat.le_refl _) hl,Bool.false_eq_true,if_false]
   exact ih (p + 1) hl (by omega) (fun q hq=>h3 q (by omega))
  ·have:p = a:=by omega
   subst this;simp [kfind,ha]
theorem kfind_none {stands:Nat → Bool}:∀ (n p:Nat),(∀ q,p ≤ q → q ≤ p + n → stands q = false) → kfind stands p n = -1:=by
 intro n
 induction n with
 | zero=>intro p h;simp [kfind,h p (Nat.le_refl _) (Nat.le_refl _)]
 | succ n ih=>intro p h;simp only [kfind,h p (Nat.le_refl _) (by omega),Bool.false_eq_true,if_false];exact ih (p + 1) (fun q h1 h2=>h q (by omega) (by omega))
end Go.Proofs.YtgjokdngbocehaaGreatDoor
namespace Go.Proofs.YtgjokdngbocehaaGreatDoor
def standsL (xs ys:List Int) (p:Nat):Bool:=decide (p + ys.length ≤ xs.length ∧ ∀ i,i < ys.length → xs[p + i]? = ys[i]?)
def findL (xs ys:List Int):Int:=kfind (standsL xs ys) 0 xs.length
theorem standsL_short (xs ys:List Int) (p:Nat) (h:xs.length < p + ys.length):standsL xs ys p = false:=by
 simp only [standsL,decide_eq_false_iff_not];intro h2;omega
theorem standsL_true (xs ys:List Int) (p:Nat) (h:p + ys.length ≤ xs.length) (h2:∀ i,i < ys.length → xs[p + i]? = ys[i]?):standsL xs ys p = true:=by
 simp only [standsL,decide_eq_true_eq];exact ⟨h,h2⟩
theorem standsL_seg (xs ys:List Int) (p:Nat) (h:p + ys.length ≤ xs.length):standsL xs ys p = decide ((xs.drop p).take ys.length = ys):=by
 by_cases e:(xs.drop p).take ys.length = ys
 ·rw [decide_eq_true e]
  refine standsL_true xs ys p h fun i hi=>?_
  have:=congrArg (fun l=>l[i]?) e
  simp only [List.getElem?_take,List.getElem?_drop,if_pos hi] at this
  exact this
 ·rw [decide_eq_false e]
  cases hs:standsL xs ys p with
  | false=>rfl
  | true =>
   simp only [standsL,decide_eq_true_eq] at hs
   refine absurd ?_ e
   refine List.ext_getElem? fun i=>?_
   rw [List.getElem?_take,List.getElem?_drop]
   by_cases hi:i < ys.length
   ·rw [if_pos hi];exact hs.2 i hi
   ·rw [if_neg hi,List.getElem?_eq_none (by omega)]
def chF (xs:List Int) (i:Nat):Int:=xs[i]?.getD 0
theorem chF_at {xs:List Int} {i:Nat} (h:i < xs.length):xs[i]? = some (chF xs i):=by
 unfold chF;rw [List.getElem?_eq_getElem h];rfl
theorem stands_iff (xs ys:List Int) (p:Nat):standsL xs ys p = true ↔ KStands (chF xs) (chF ys) ys.length xs.length p:=by
 simp only [standsL,decide_eq_true_eq,KStands]
 refine ⟨fun h=>⟨h.1,fun i hi=>?_⟩,fun h=>⟨h.1,fun i hi=>?_⟩⟩
 ·have:=h.2 i hi
  rw [chF_at (show p + i < xs.length by omega),chF_at hi] at this
  exact Option.some.inj this
 ·rw [chF_at (show p + i < xs.length by omega),chF_at hi,h.2 i hi]
theorem findL_found {xs ys:List Int} {a:Nat} (h:KStands (chF xs) (chF ys) ys.length xs.length a) (hn:∀ p,p < a → ¬ KStands (chF xs) (chF ys) ys.length xs.length p):findL xs ys = (a:Int):=by
 refine kfind_found ((stands_iff ..).2 h) _ _ (Nat.zero_le _) (by have:=h.1;omega) fun q _ hq=>?_
 cases hs:standsL xs ys q with
 | false=>rfl
 | true=>exact absurd ((stands_iff ..).1 hs) (hn q hq)
theorem findL_none {xs ys:List Int} (hn:∀ p,¬ KStands (chF xs) (chF ys) ys.length xs.length p):findL xs ys = -1:=by
 refine kfind_none _ _ fun q _ _=>?_
 cases hs:standsL xs ys q with
 | false=>rfl
 | true=>exact absurd ((stands_iff ..).1 hs) (hn q)
theorem findL_nil (xs:List Int):findL xs [] = 0:=by
 have:=findL_found (xs:=xs) (ys:=[]) (a:=0) ⟨by simp,fun i hi=>by simp at hi⟩ (fun p hp=>by omega)
 simpa using this
end Go.Proofs.YtgjokdngbocehaaGreatDoor
