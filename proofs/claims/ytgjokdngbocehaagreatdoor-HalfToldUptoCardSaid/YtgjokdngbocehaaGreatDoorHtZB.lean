/-
  gimletref09: Nodes, of all events of a document.
-/
import Derived.Test.YtgjokdngbocehaaGreatDoorHtA
import Derived.Test.YtgjokdngbocehaaGreatDoorHtD
import Derived.Test.YtgjokdngbocehaaGreatDoorHtE
import Derived.Test.YtgjokdngbocehaaGreatDoorHtF
import Derived.Test.YtgjokdngbocehaaGreatDoorHtG
import Derived.Test.YtgjokdngbocehaaGreatDoorHtM
import Derived.Test.YtgjokdngbocehaaGreatDoorHtR
import Derived.Test.YtgjokdngbocehaaGreatDoorHtY
import Derived.Test.YtgjokdngbocehaaGreatDoorHtZA
namespace Go.Proofs.YtgjokdngbocehaaGreatDoor
open Go.RowKit
theorem infoRNode:(Tryz.prog.info? 146).map (fun i=>(i.zero,i.size,i.bytes)) = some (some (.agg #[.int .i64 0,.int .i64 0,.int .i64 0,.string ⟨#[]⟩,.slice none 0 0,.string ⟨#[]⟩,.int .i64 0,.int .i64 0,.int .i64 0,.int .i64 0,.int .i64 0,.int .i64 0,.string ⟨#[]⟩]),13,144):=by kernel_rfl
def rnL (e:Ev) (A:Option Addr) (m c:Nat) (r:RN):List Value:=evL e A m c ++ [.int .i64 r.par,.int .i64 r.last,.int .i64 (r.pos:Nat),.int .i64 r.clo,.string (strL r.val)]
def RnRow (w:World) (evs:List Ev) (rs:List RN) (cs:List Value):Prop :=
 ∀ i r,rs[i]? = some r → ∃ (e:Ev) (A:Option Addr) (m c:Nat),evs[r.pos]? = some e ∧ AttrsAt w A m e.ats ∧ ∀ j,j < 13 → cs[i * 13 + j]? = (rnL e A m c r)[j]?
def opnC (s:BegS):List Value:=(opnsOf s).map (Value.int .i64)
theorem rnL_length (e:Ev) (A:Option Addr) (m c:Nat) (r:RN):(rnL e A m c r).length = 13:=rfl
theorem RnRow.set {w:World} {evs:List Ev} {rs:List RN} {cs:List Value} (h:RnRow w evs rs cs) (hl:cs.length = rs.length * 13) (j q:Nat) (hj:j < rs.length) (hq:q < 13) (v:Value) (f:RN → RN) (hf:∀ r,(f r).pos = r.pos)
  (hv:∀ e A m c r,rs[j]? = some r → rnL e A m c (f r) = (rnL e A m c r).set q v):RnRow w evs (rs.modify j f) (cs.set (j * 13 + q) v):=by
 intro i r hr
 rw [List.getElem?_modify] at hr
 cases hr0:rs[i]? with
 | none=>rw [hr0] at hr;simp at hr
 | some r0 =>
  rw [hr0] at hr
  have hil:=get_lt hr0
  obtain ⟨e,A,m,c,h1,h2,h3⟩:=h i r0 hr0
  by_cases hji:j = i
  ·subst hji
   simp at hr
   subst hr
   refine ⟨e,A,m,c,by rw [hf];exact h1,h2,fun k hk=>?_⟩
   rw [hv e A m c r0 hr0,List.getElem?_set,List.getElem?_set]
   by_cases hqk:q = k
   ·subst hqk
    rw [if_pos rfl,if_pos rfl,if_pos (by omega),if_pos (by rw [rnL_length];omega)]
   ·rw [if_neg (by omega),if_neg hqk];exact h3 k hk
  ·simp [hji] at hr
   subst hr
   refine ⟨e,A,m,c,h1,h2,fun k hk=>?_⟩
   rw [List.getElem?_set,if_neg (by omega)]
   exact h3 k hk
theorem RnRow.push {w:World} {evs:List Ev} {rs:List RN} {cs:List Value} (h:RnRow w evs rs cs) (hl:cs.length = rs.length * 13) (r:RN) (e:Ev) (A:Option Addr) (m c:Nat) (h1:evs[r.pos]? = some e) (h2:AttrsAt w A m e.ats):RnRow w evs (rs ++ [r]) (cs ++ rnL e A m c r):=by
 intro i r' hr
 rcases snoc_get hr with ⟨hil,hr⟩ | ⟨hil,rfl⟩
 ·obtain ⟨e',A',m',c',g1,g2,g3⟩:=h i r' hr
  exact ⟨e',A',m',c',g1,g2,fun k hk=>by rw [List.getElem?_append_left (by omega)];exact g3 k hk⟩
 ·subst hil
  exact ⟨e,A,m,c,h1,h2,fun k hk=>by rw [List.getElem?_append_right (by omega),hl];congr 1;omega⟩
structure NInv (w0:World) (evs:List Ev) (s:BegS) (rs:List RN) (lv ov:Value) (W:World):Prop where
 bel:Below w0.heap.size w0 W
 row:∃ cs,W.ownsRow w0.heap.size 146 13 lv rs.length cs ∧ RnRow w0 evs rs cs
 opn:W.ownsRow w0.heap.size 3 1 ov s.opn.length (opnC s)
theorem opnC_close {s:BegS} {e:Ev} {x:Int × Int × List UInt8} {rest:List (Int × Int × List UInt8)} (hr:s.opn = x :: rest) (hk:e.kind = 2):opnC s = opnC (begNext s e) ++ [.int .i64 x.1] ∧ (begNext s e).opn.length = rest.length ∧ (opnC (begNext s e)).length = rest.length:=by
 have hop:(begNext s e).opn = rest:=by unfold begNext;simp [hk,hr]
 refine ⟨?_,by rw [hop],by unfold opnC opnsOf;rw [hop];simp⟩
 unfold opnC opnsOf
 rw [hop,hr]
 simp
theorem opnC_open {s:BegS} {e:Ev} (hk:e.kind = 0):opnC (begNext s e) = opnC s ++ [.int .i64 e.num] ∧ (begNext s e).opn.length = s.opn.length + 1:=by
 have hop:(begNext s e).opn = (e.num,e.dep,e.name) :: s.opn:=by unfold begNext;simp [hk]
 refine ⟨?_,by rw [hop];rfl⟩
 unfold opnC opnsOf
 rw [hop]
 simp
theorem opnC_text {s:BegS} {e:Ev} (hk:e.kind = 1):opnC (begNext s e) = opnC s ∧ (begNext s e).opn = s.opn:=by
 have hop:(begNext s e).opn = s.opn:=by unfold begNext;simp [hk]
 refine ⟨?_,hop⟩
 unfold opnC opnsOf
 rw [hop]
theorem opnC_top' {s:BegS} {on:Nat} (h:s.opn.length = on + 1):(opnC s)[on]? = some (.int .i64 (topOf s.opn)):=by
 cases ho:s.opn with
 | nil=>rw [ho] at h;simp at h
 | cons a r =>
  rw [ho] at h
  have hr:r.length = on:=by simpa using h
  unfold opnC opnsOf topOf
  rw [ho,List.reverse_cons,List.map_append,List.map_append,List.getElem?_append_right (by simp [hr])]
  simp [hr]
theorem NInv.below {w0 W W':World} {evs:List Ev} {s:BegS} {rs:List RN} {lv ov:Value} (h:NInv w0 evs s rs lv ov W) (hb:Below W.heap.size W W'):NInv w0 evs s rs lv ov W':=by
 obtain ⟨h1,⟨cs,h2,h3⟩,h4⟩:=h
 exact ⟨h1.trans (hb.mono h1.size),⟨cs,own_block h2 (fun k hk=>hb.block k (h2.lt k hk).2),h3⟩,own_block h4 (fun k hk=>hb.block k (h4.lt k hk).2)⟩
def RbMem (w:World) (an:Option Addr) (evs:List Ev) (rs:List RN):Prop :=
 ∀ (i:Nat) (r:RN),rs[i]? = some r → ∃ (b:Nat) (e:Ev) (A:Option Addr) (m c:Nat),an = some ⟨b,0,none⟩ ∧ b < w.heap.size ∧ evs[r.pos]? = some e ∧ AttrsAt w A m e.ats ∧ ∀ j,j < 13 → w.cell? ⟨b,i * 13 + j,none⟩ = (rnL e A m c r)[j]?
theorem RbMem.below {w w':World} {an:Option Addr} {evs:List Ev} {rs:List RN} (h:RbMem w an evs rs) (hb:Below w.heap.size w w'):RbMem w' an evs rs:=by
 intro i r hr
 obtain ⟨b,e,A,m,c,h1,h2,h3,h4,h5⟩:=h i r hr
 exact ⟨b,e,A,m,c,h1,Nat.lt_of_lt_of_le h2 hb.size,h3,h4.below hb,fun j hj=>(hb.cell (p:=⟨b,i * 13 + j,none⟩) h2).trans (h5 j hj)⟩
set_option maxRecDepth 1000000 in
set_option maxHeartbeats 4000000 in
theorem nodesR_any (a:Option Addr) (n c:Nat) (evs:List Ev) (w:World) (hE:EvsAt w a n evs) (t:BegS) (ht:begAll beg0 evs = some t) (hn:n ≤ 1048576) (hsm:∀ e ∈ evs,EvSm e) :
  Calls Tryz.prog 58 #[.slice a n c] w fun e w'=>∃ an cn,e = .returned (.slice an (rnAll beg0 [] evs).length cn) ∧ RbMem w' an evs (rnAll beg0 [] evs) ∧ Below w.heap.size w w':=by
 obtain ⟨i0,hi,hz0,hz1,hz2⟩:=info_parts infoRNode
 obtain ⟨j0,hj,hjz0,hjz1,hjz2⟩:=info_parts infoInt
 have HE:=Lib.hid hE
 have HN:Hid (n = evs.length):=Lib.hid hE.1
 have HSM:=Lib.hid hsm
 have HT:=Lib.hid ht
 clear hE hsm ht
 go_enter Tryz.func58,Tryz.ntmps58
 go_wp2_with fail
 go_loopw [3,4,5] (fun lv ov iv wr=>∃ (k:Nat) (s:BegS),iv = .int .i64 k ∧ k ≤ n ∧ Hid (begAll beg0 (evs.take k) = some s) ∧ Hid (NInv w evs s (rnAll beg0 [] (evs.take k)) lv ov wr)) (fun _ _ iv _=>n - (intOf iv).toNat)
 case atStart=>exact ⟨0,beg0,rfl,Nat.zero_le _,Lib.hid rfl,Lib.hid ⟨Below.refl _ _,⟨[],World.ownsRow_nil _ _ _ _,fun i r h=>by simp [rnAll] at h⟩,World.ownsRow_nil _ _ _ _⟩⟩
 case round =>
  obtain ⟨k,s,rfl,hk,HBS,HNI⟩:=hrel
  by_cases hkn:k < n
  ·have hkl:k < evs.length:=by rw [← HN.out];exact hkn
   obtain ⟨b,o,A,m,c',rfl,hb,hmc,hA,hcells⟩:=HE.out.at8 k hkl
   obtain ⟨e0,e1,e2,e3,e4,e5,e6,e7⟩:=hcells wr HNI.out.bel
   have hsmk:=HSM.out _ (List.getElem_mem hkl)
   obtain ⟨hok,hnext⟩:=begAll_at HT.out k hkl HBS.out
   have hsnoc:rnAll beg0 [] (evs.take (k + 1)) = rnNext s (rnAll beg0 [] (evs.take k)) evs[k]:=by
    rw [List.take_succ_eq_append_getElem hkl]
    exact rnAll_snoc _ _ _ _ HBS.out
   have hspec:=rnAll_spec HBS.out
   have hinv:=nodesB_inv HBS.out
   have hek:evs[k]? = some evs[k]:=List.getElem?_eq_getElem hkl
   have hcntk:s.cnt = k:=by rw [hinv.cnt,List.length_take];omega
   have hble:=beg_le _ _ _ HBS.out
   simp only [beg0,List.length_nil,List.length_take] at hble
   generalize evs[k] = ev at *
   generalize rnAll beg0 [] (evs.take k) = rs at *
   obtain ⟨kd,num,dep,name,ats,text,fr,tt⟩:=ev
   simp only at e0 e1 e2 e3 e4 e5 e6 e7 hA
   have hrl:rs.length = (nodesB (evs.take k)).length:=hspec.len
   have hrl2:(rs.length:Int) = s.next:=by rw [hrl];exact hinv.nxt.symm
   have i1:(0:Int) ≤ (k:Int):=by omega
   have i2:(k:Int) < (n:Int):=by omega
   have ew:IntKind.i64.wrap ((k:Int) + 1) = (k:Int) + 1:=IntWalk.i64_in _ (by omega)
   have HX:=Lib.hid (⟨hok,hnext,hsnoc,hspec,hinv,hek⟩:_ ∧ _ ∧ _ ∧ _ ∧ _ ∧ _)
   have HA:=Lib.hid hA
   have HSMK:=Lib.hid hsmk
   have HNIA:Hid (∀ o,NInv w evs s rs u3 u4 (wr.alloc o) ∧ (wr.alloc o).heap[wr.heap.size]? = some o ∧ (wr.alloc o).heap.size = wr.heap.size + 1):=Lib.hid fun o=>⟨HNI.out.below ((Below.refl _ _).alloc (Nat.le_refl _) o),heap_alloc_new wr o,by simp⟩
   clear hok hnext hsnoc hspec hinv hek hA hcells hsmk
   by_cases h2:kd = 2
   ·subst h2
    have hhd:=begOk_close HX.out.1 rfl
    simp only at hhd
    obtain ⟨rest,hr⟩:∃ rest,s.opn = (num,dep,name) :: rest:=by
     cases ho:s.opn with
     | nil=>rw [ho] at hhd;cases hhd
     | cons a r=>rw [ho] at hhd;simp at hhd;exact ⟨r,by rw [hhd]⟩
    have hnum:=HX.out.2.2.2.2.1.opn _ (by rw [hr];exact List.mem_cons_self)
    simp only at hnum
    obtain ⟨j,rfl⟩:∃ j:Nat,num = (j:Int):=⟨num.toNat,by omega⟩
    have hjr:j < rs.length:=by omega
    obtain ⟨cs,hrow,hrr⟩:=HNI.out.row
    obtain ⟨la,lc,rfl,_,hla0,hlas⟩:=own_slice hrow
    obtain ⟨gl,rfl⟩:∃ g,la = some ⟨g,0,none⟩:=by
     cases la with
     | none=>have:=hla0 rfl;omega
     | some ad=>obtain ⟨g,h,_⟩:=hlas ad rfl;exact ⟨g,by rw [h]⟩
    have hopn0:=HNI.out.opn
    obtain ⟨on,hon⟩:∃ on,s.opn.length = on + 1:=⟨rest.length,by rw [hr];rfl⟩
    rw [hon] at hopn0
    obtain ⟨go,oc,rfl,hoc,_⟩:=own_some hopn0
    have hne:gl ≠ go:=fun e=>own_ne hrow hopn0 (by decide) gl rfl (by rw [e];rfl)
    have hlts:=(hrow.lt gl rfl)
    have y11:∀ o',∃ x,(wr.alloc o').cell? ⟨gl,j * 13 + 11,none⟩ = some x:=fun o'=>own_cell (hrow.alloc o') (j * 13 + 11) (by omega)
    obtain ⟨x11,yy⟩:=y11 (.cells #[.int .i64 2,.int .i64 (j:Nat),.int .i64 dep,.string (strL name),.slice A m c',.string (strL text),.int .i64 fr,.int .i64 tt] 47)
    have zz:∀ q,(wr.alloc (.cells #[.int .i64 2,.int .i64 (j:Nat),.int .i64 dep,.string (strL name),.slice A m c',.string (strL text),.int .i64 fr,.int .i64 tt] 47)).frozen? ⟨gl,q,none⟩ = false:=fun q=>(hrow.alloc _).frozenAt q
    have HROW:=Lib.hid (⟨hrow,hrr,hopn0,hr⟩:_ ∧ _ ∧ _ ∧ _)
    have j1:(0:Int) ≤ (j:Int):=by omega
    have j2:(j:Int) < (rs.length:Int):=by omega
    have u1:(0:Int) ≤ (on:Int):=by omega
    have u2:(on:Int) ≤ (oc:Int):=by omega
    have u3':IntKind.i64.wrap ((on:Int) + 1 - 1) = (on:Int):=by rw [show (on:Int) + 1 - 1 = (on:Int) by omega];exact IntWalk.i64_in _ (by omega)
    have u4':IntKind.i64.wrap (on:Int) = (on:Int):=IntWalk.i64_in _ (by omega)
    clear y11 hrow hrr hopn0 hr hla0 hlas hhd
    have HRLN:Hid (rs.length = rs.length):=Lib.hid rfl
    go_wp2_with fail
    obtain ⟨hrow,hrr,hopn0,hr⟩:=HROW.out
    obtain ⟨hok,hnext,hsnoc,hspec,hinv,hek⟩:=HX.out
    obtain ⟨q1,q2,q3⟩:=opnC_close (e:=⟨2,(j:Int),dep,name,ats,text,fr,tt⟩) hr rfl
    have hrn:rnNext s rs ⟨2,(j:Int),dep,name,ats,text,fr,tt⟩ = rs.modify j (rnClo s.cnt):=by unfold rnNext;rw [if_pos rfl];simp
    have hstored:=((hrow.stored (j * 13 + 11) (.int .i64 (k:Nat))).1).alloc (.cells #[.int .i64 2,.int .i64 (j:Nat),.int .i64 dep,.string (strL name),.slice A m c',.string (strL text),.int .i64 fr,.int .i64 tt] 47)
    have hrl3:rest.length = on:=by rw [hr] at hon;simpa using hon
    have hnew:NInv w evs (begNext s ⟨2,(j:Int),dep,name,ats,text,fr,tt⟩) (rs.modify j (rnClo s.cnt)) (.slice (some ⟨gl,0,none⟩) rs.length lc) (.slice (some ⟨go,0,none⟩) on oc) ((wr.setCell ⟨gl,j * 13 + 11,none⟩ (.int .i64 (k:Nat))).alloc (.cells #[.int .i64 2,.int .i64 (j:Nat),.int .i64 dep,.string (strL name),.slice A m c',.string (strL text),.int .i64 fr,.int .i64 tt] 47)):=by
     refine ⟨(HNI.out.bel.setCell (p:=⟨gl,j * 13 + 11,none⟩) hlts.1 _).alloc (by simp only [World.setCell,Array.size_modify];exact HNI.out.bel.size) _,⟨cs.set (j * 13 + 11) (.int .i64 (k:Nat)),?_,?_⟩,?_⟩
     ·rw [List.length_modify];exact hstored
     ·refine hrr.set hrow.1 j 11 hjr (by decide) _ _ (fun _=>rfl) (fun e' A' m' c'' r' _=>?_)
      rw [hcntk];rfl
     ·have h5:=hopn0
      rw [q1] at h5
      have h6:=own_pop h5 (by rw [q3,hrl3,Nat.mul_one])
      rw [q2,hrl3]
      exact (own_block h6 (fun k' hk'=>Below.heap_setCell _ _ _ _ (by simp only;cases hk';exact fun e=>hne e.symm))).alloc _
    have HFIN:=Lib.hid hnew
    have HNX:Hid (begAll beg0 (evs.take (k + 1)) = some (begNext s ⟨2,(j:Int),dep,name,ats,text,fr,tt⟩)):=Lib.hid hnext
    have HSN:Hid (rnAll beg0 [] (evs.take (k + 1)) = rs.modify j (rnClo s.cnt)):=Lib.hid (by rw [hsnoc,hrn])
    go_roundw
    case rel=>exact ⟨k + 1,_,by go_num,by omega,HNX,by rw [HSN.out];exact HFIN⟩
    case measure=>simp [intOf];omega
   ·-- PRINTED
    obtain ⟨hnum,hk01⟩:=begOk_new HX.out.1 h2
    simp only at hnum hk01
    obtain ⟨J,hJ⟩:∃ J:Nat,rs.length = J:=⟨_,rfl⟩
    obtain rfl:num = (J:Int):=by omega
    obtain ⟨on0,hon⟩:∃ on0,s.opn.length = on0:=⟨_,rfl⟩
    have hJk:J ≤ 1048576 ∧ on0 ≤ 1048576:=by omega
    have HNUM:=Lib.hid (⟨hnum,hrl2,hrl,hble⟩:_ ∧ _ ∧ _ ∧ _)
    clear hnum hrl2 hrl hble
    rcases hk01 with hkd | hkd
    ·cases on0 with
     | zero =>
      have hop0:s.opn = []:=List.eq_nil_of_length_eq_zero hon
      subst hkd
      have hopn0:=HNI.out.opn
      rw [hon] at hopn0
      obtain ⟨oa,oc,rfl,_,_,_⟩:=own_slice hopn0
      have htop:topOf s.opn = -1:=by rw [hop0];rfl
      obtain ⟨cs,hrow,hrr⟩:=HNI.out.row
      rw [hJ] at hrow
      obtain ⟨la,lc,rfl,_,_,_⟩:=own_slice hrow
      have HROW:=Lib.hid (⟨hrow,hrr,hopn0,hon⟩:_ ∧ _ ∧ _ ∧ _)
      have HRW:Hid (∀ o1 o2,((wr.alloc o1).alloc o2).ownsRow w.heap.size 146 13 (.slice la J lc) J cs):=Lib.hid fun o1 o2=>(hrow.alloc o1).alloc o2
      have HSZ:Hid (∀ o1 o2,w.heap.size ≤ ((wr.alloc o1).alloc o2).heap.size):=Lib.hid fun o1 o2=>by have:=HNI.out.bel.size;simp;omega
      have hjn:J + 1 ≤ 4294967296:=by omega
      clear hrow hrr hopn0
      go_wp2_with (at_builtin;go_must ((refine wpList_app ((wr.alloc (.cells #[.int .i64 0,.int .i64 (J:Nat),.int .i64 dep,.string (strL name),.slice A m c',.string (strL text),.int .i64 fr,.int .i64 tt] 47)).alloc (.cells #[.int .i64 0,.int .i64 (J:Nat),.int .i64 dep,.string (strL name),.slice A m c',.string (strL text),.int .i64 fr,.int .i64 tt,.int .i64 (-1),.int .i64 (J:Nat),.int .i64 (k:Nat),.int .i64 (-1),.string (strL text)] 146)) (by rfl) _ _ 88 (by rfl) w.heap.size 146 i0 _ 13 144 Tryz.underlying88 hi hz0 hz1 hz2 (by rfl) (by decide) (.slice la J lc) J cs (by rfl) (HRW.out _ _) (wr.heap.size + 1 + 1) (by simp) 1 [.int .i64 0,.int .i64 (J:Nat),.int .i64 dep,.string (strL name),.slice A m c',.string (strL text),.int .i64 fr,.int .i64 tt,.int .i64 (-1),.int .i64 (J:Nat),.int .i64 (k:Nat),.int .i64 (-1),.string (strL text)] (by rfl) (by rfl) (by intro u hu;simp only [List.mem_cons,List.not_mem_nil,or_false] at hu;rcases hu with rfl | rfl | rfl | rfl | rfl | rfl | rfl | rfl | rfl | rfl | rfl | rfl | rfl <;> rfl) hjn (by decide) (HSZ.out _ _) (fun v7 w7 hown7 hap7=>?_))))
      obtain ⟨g7,c7,rfl,_,hg7a,hg7b,_,_⟩:=own_some hown7
      obtain ⟨hrow,hrr,hopn0,_⟩:=HROW.out
      obtain ⟨hok,hnext,hsnoc,hspec,hinv,hek⟩:=HX.out
      have hnw:rnL ⟨0,(J:Int),dep,name,ats,text,fr,tt⟩ A m c' (rnNew s ⟨0,(J:Int),dep,name,ats,text,fr,tt⟩) = [.int .i64 0,.int .i64 (J:Nat),.int .i64 dep,.string (strL name),.slice A m c',.string (strL text),.int .i64 fr,.int .i64 tt,.int .i64 (-1),.int .i64 (J:Nat),.int .i64 (k:Nat),.int .i64 (-1),.string (strL text)]:=by
       unfold rnNew rnL evL evC
       rw [hcntk,htop]
       rfl
      obtain ⟨rs1,hrs1⟩:∃ rs1,rs ++ [rnNew s ⟨0,(J:Int),dep,name,ats,text,fr,tt⟩] = rs1:=⟨_,rfl⟩
      have hrs1l:rs1.length = J + 1:=by rw [← hrs1,List.length_append,hJ];rfl
      have hs2:((wr.alloc (.cells #[.int .i64 0,.int .i64 (J:Nat),.int .i64 dep,.string (strL name),.slice A m c',.string (strL text),.int .i64 fr,.int .i64 tt] 47)).alloc (.cells #[.int .i64 0,.int .i64 (J:Nat),.int .i64 dep,.string (strL name),.slice A m c',.string (strL text),.int .i64 fr,.int .i64 tt,.int .i64 (-1),.int .i64 (J:Nat),.int .i64 (k:Nat),.int .i64 (-1),.string (strL text)] 146)).heap.size = wr.heap.size + 2:=by simp
      have hlk:∀ q,Value.ownBlock (.slice la J lc) = some q → w.heap.size ≤ q ∧ q < wr.heap.size:=fun q hq=>hrow.lt q hq
      have hw0:=HNI.out.bel.size
      have hbel7:Below w.heap.size w w7:=(((HNI.out.bel.alloc hw0 (.cells #[.int .i64 0,.int .i64 (J:Nat),.int .i64 dep,.string (strL name),.slice A m c',.string (strL text),.int .i64 fr,.int .i64 tt] 47)).alloc (by simp;omega) (.cells #[.int .i64 0,.int .i64 (J:Nat),.int .i64 dep,.string (strL name),.slice A m c',.string (strL text),.int .i64 fr,.int .i64 tt,.int .i64 (-1),.int .i64 (J:Nat),.int .i64 (k:Nat),.int .i64 (-1),.string (strL text)] 146)).alloc (by simp;omega) (.cells #[.int .i64 0,.int .i64 (J:Nat),.int .i64 dep,.string (strL name),.slice A m c',.string (strL text),.int .i64 fr,.int .i64 tt,.int .i64 (-1),.int .i64 (J:Nat),.int .i64 (k:Nat),.int .i64 (-1),.string (strL text)] 146)).trans (hap7.below (by simp;omega) (fun q hq=>(hlk q hq).1))
      have hkeep7:∀ q,q < wr.heap.size + 2 → Value.ownBlock (.slice la J lc) ≠ some q → w7.heap[q]? = ((wr.alloc (.cells #[.int .i64 0,.int .i64 (J:Nat),.int .i64 dep,.string (strL name),.slice A m c',.string (strL text),.int .i64 fr,.int .i64 tt] 47)).alloc (.cells #[.int .i64 0,.int .i64 (J:Nat),.int .i64 dep,.string (strL name),.slice A m c',.string (strL text),.int .i64 fr,.int .i64 tt,.int .i64 (-1),.int .i64 (J:Nat),.int .i64 (k:Nat),.int .i64 (-1),.string (strL text)] 146)).heap[q]?:=fun q h1 h2=>(hap7.keep (by simp;omega) h2).trans (Below.heap_alloc _ _ _ (by simp;omega))
      have hini:NInv w evs s rs1 (.slice (some ⟨g7,0,none⟩) (J + 1) c7) (.slice oa 0 oc) w7:=by
       refine ⟨hbel7,⟨cs ++ [.int .i64 0,.int .i64 (J:Nat),.int .i64 dep,.string (strL name),.slice A m c',.string (strL text),.int .i64 fr,.int .i64 tt,.int .i64 (-1),.int .i64 (J:Nat),.int .i64 (k:Nat),.int .i64 (-1),.string (strL text)],by rw [hrs1l];exact hown7,?_⟩,?_⟩
       ·rw [← hrs1,← hnw]
        exact hrr.push (by rw [hJ];exact hrow.1) _ ⟨0,(J:Int),dep,name,ats,text,fr,tt⟩ A m c' (by show evs[s.cnt]? = _;rw [hcntk];exact hek) HA.out
       ·rw [hon]
        refine own_block ((hopn0.alloc (.cells #[.int .i64 0,.int .i64 (J:Nat),.int .i64 dep,.string (strL name),.slice A m c',.string (strL text),.int .i64 fr,.int .i64 tt] 47)).alloc (.cells #[.int .i64 0,.int .i64 (J:Nat),.int .i64 dep,.string (strL name),.slice A m c',.string (strL text),.int .i64 fr,.int .i64 tt,.int .i64 (-1),.int .i64 (J:Nat),.int .i64 (k:Nat),.int .i64 (-1),.string (strL text)] 146)) (fun q hq=>hkeep7 q (by have:=(hopn0.lt q hq).2;omega) (fun e=>own_ne hrow hopn0 (by decide) q e hq))
      have hebx:w7.heap[wr.heap.size]? = some (.cells #[.int .i64 0,.int .i64 (J:Nat),.int .i64 dep,.string (strL name),.slice A m c',.string (strL text),.int .i64 fr,.int .i64 tt] 47 (0,0)):=by
       rw [hkeep7 _ (by omega) (fun e=>by have:=(hlk _ e).2;omega)]
       exact (Below.heap_alloc _ _ _ (by simp)).trans (heap_alloc_new wr _)
      have HINI:=Lib.hid hini
      have HEBX:=Lib.hid hebx
      have HRS1:=Lib.hid (⟨hrs1,hrs1l⟩:_ ∧ _)
      have HNOD:=Lib.hid (opns_nodup hinv)
      have HVL:Hid (∀ (i:Nat) (r:RN),rs[i]? = some r → r.val.length ≤ 1048576 * 1048576):=Lib.hid fun i r hr=>Nat.le_trans (hspec.val_len (nodesB_last HBS.out) (fun e he=>(HSM.out e (List.mem_of_mem_take he)).2.1) hr) (Nat.mul_le_mul_right _ (by have:=HNUM.out.2.2.1;omega))
      have hwr7:wr.heap.size < w7.heap.size:=heap_lt hebx
      have hg7w:g7 ≠ wr.heap.size:=fun e=>by
       have h1:=hini.row
       obtain ⟨csx,hx1,_⟩:=h1
       exact own_not hx1 hebx (by decide) (by rw [e];rfl)
      clear hrow hrr hopn0 hok hnext hsnoc hspec hinv hek hnw hbel7 hkeep7 hini hebx hown7 hap7 hlk hs2 HRW HSZ HNIA
      go_wp2_with fail
      generalize wr.heap.size = EB at *
      go_loopw [8] (fun kv W=>∃ q:Nat,kv = .int .i64 q ∧ q ≤ 0 ∧ Hid (NInv w evs s (rnOpens ⟨0,(J:Int),dep,name,ats,text,fr,tt⟩ ((opnsOf s).take q) rs1) (.slice (some ⟨g7,0,none⟩) (J + 1) c7) (.slice oa 0 oc) W ∧ W.heap[EB]? = some (.cells #[.int .i64 0,.int .i64 (J:Nat),.int .i64 dep,.string (strL name),.slice A m c',.string (strL text),.int .i64 fr,.int .i64 tt] 47 (0,0)))) (fun kv _=>0 - (intOf kv).toNat)
      case atStart=>exact ⟨0,rfl,Nat.zero_le _,Lib.hid ⟨HINI.out,HEBX.out⟩⟩
      case round =>
       obtain ⟨q,rfl,hq,HQ⟩:=hrel
       by_cases hqn:q < 0
       ·omega
       ·have hqe:q = 0:=by omega
        subst hqe
        have HNXT:Hid (begAll beg0 (evs.take (k + 1)) = some (begNext s ⟨0,(J:Int),dep,name,ats,text,fr,tt⟩)):=Lib.hid HX.out.2.1
        have hsn:=HX.out.2.2.1
        have hfull:(opnsOf s).take 0 = opnsOf s:=List.take_of_length_le (by unfold opnsOf;rw [List.length_map,List.length_reverse,hon];exact Nat.le_refl _)
        have hni:=HQ.out.1
        rw [hfull,← HRS1.out.1] at hni
        have hrl9:(rnOpens ⟨0,(J:Int),dep,name,ats,text,fr,tt⟩ (opnsOf s) (rs ++ [rnNew s ⟨0,(J:Int),dep,name,ats,text,fr,tt⟩])).length = J + 1:=by rw [rnOpens_length,HRS1.out.1];exact HRS1.out.2
        obtain ⟨q1,q2⟩:=opnC_open (s:=s) (e:=⟨0,(J:Int),dep,name,ats,text,fr,tt⟩) rfl
        have HSN:Hid (rnAll beg0 [] (evs.take (k + 1)) = rnOpens ⟨0,(J:Int),dep,name,ats,text,fr,tt⟩ (opnsOf s) (rs ++ [rnNew s ⟨0,(J:Int),dep,name,ats,text,fr,tt⟩])):=Lib.hid (by rw [hsn];unfold rnNext;rw [if_neg (show ¬ ((0:Int) = 2) by decide),if_pos rfl])
        have HNF:=Lib.hid hni
        have HOPN:Hid (wr.ownsRow w.heap.size 3 1 (.slice oa 0 oc) 0 (opnC s)):=Lib.hid (by have:=hni.opn;rw [hon] at this;exact this)
        have hq12:=Lib.hid (⟨q1,q2⟩:_ ∧ _)
        have f0:wr.cell? ⟨EB,0,none⟩ = some (.int .i64 0):=by rw [cell_heap HQ.out.2];rfl
        have f1:wr.cell? ⟨EB,1,none⟩ = some (.int .i64 (J:Nat)):=by rw [cell_heap HQ.out.2];rfl
        have hwsz:=hni.bel.size
        have hon9:0 + 1 ≤ 4294967296:=by omega
        clear hsn hfull hni q1 q2
        go_wp2_with (at_builtin;go_must ((refine wpList_app wr (by rfl) _ _ 66 (by rfl) w.heap.size 3 j0 (.int .i64 0) 1 8 Tryz.underlying66 hj hjz0 hjz1 hjz2 (by rfl) (by decide) (.slice oa 0 oc) 0 (opnC s) (by rfl) HOPN.out _ rfl 1 [.int .i64 (J:Nat)] (by rfl) (by rfl) (by intro u hu;simp only [List.mem_cons,List.not_mem_nil,or_false] at hu;subst hu;rfl) hon9 (by decide) hwsz (fun v9 w9 hown9 hap9=>?_))))
        have HNI9:Hid (NInv w evs (begNext s ⟨0,(J:Int),dep,name,ats,text,fr,tt⟩) (rnOpens ⟨0,(J:Int),dep,name,ats,text,fr,tt⟩ (opnsOf s) (rs ++ [rnNew s ⟨0,(J:Int),dep,name,ats,text,fr,tt⟩])) (.slice (some ⟨g7,0,none⟩) (J + 1) c7) v9 w9):=Lib.hid (by
         obtain ⟨n1,⟨cs9,n2,n3⟩,n4⟩:=HNF.out
         refine ⟨(n1.alloc n1.size _).trans (hap9.below (by have:=n1.size;simp;omega) (fun k' hk'=>(HOPN.out.lt k' hk').1)),⟨cs9,own_block (n2.alloc (.cells #[.int .i64 (J:Nat)] 3)) (fun k' hk'=>hap9.keep (by have:=(n2.lt k' hk').2;simp;omega) (fun e=>own_ne n2 HOPN.out (by decide) k' hk' e)),n3⟩,?_⟩
         rw [hq12.out.1,hq12.out.2,hon]
         exact hown9)
        clear hown9 hap9
        go_wp2_with fail
        go_roundw
        case rel=>exact ⟨k + 1,_,by go_num,by omega,HNXT,by rw [HSN.out];exact HNI9⟩
        case measure=>simp [intOf];omega
     | succ on =>
      subst hkd
      have hopn0:=HNI.out.opn
      rw [hon] at hopn0
      obtain ⟨go,oc,rfl,hoc,hgo1,hgo2,_,hgo3⟩:=own_some hopn0
      obtain ⟨tp,htp⟩:∃ tp,topOf s.opn = tp:=⟨_,rfl⟩
      have ytop:wr.cell? ⟨go,on,none⟩ = some (.int .i64 tp):=hgo3 on _ (by rw [← htp];exact opnC_top' hon)
      have u1:(0:Int) ≤ (on:Int):=by omega
      have u2:(on:Int) < (on:Int) + 1:=by omega
      have u5:(0:Int) < (on:Int) + 1:=by omega
      have u3':IntKind.i64.wrap ((on:Int) + 1 - 1) = (on:Int):=by rw [show (on:Int) + 1 - 1 = (on:Int) by omega];exact IntWalk.i64_in _ (by omega)
      have u4':IntKind.i64.wrap (on:Int) = (on:Int):=IntWalk.i64_in _ (by omega)
      obtain ⟨cs,hrow,hrr⟩:=HNI.out.row
      rw [hJ] at hrow
      obtain ⟨la,lc,rfl,_,_,_⟩:=own_slice hrow
      have HROW:=Lib.hid (⟨hrow,hrr,hopn0,hon⟩:_ ∧ _ ∧ _ ∧ _)
      have HRW:Hid (∀ o1 o2,((wr.alloc o1).alloc o2).ownsRow w.heap.size 146 13 (.slice la J lc) J cs):=Lib.hid fun o1 o2=>(hrow.alloc o1).alloc o2
      have HSZ:Hid (∀ o1 o2,w.heap.size ≤ ((wr.alloc o1).alloc o2).heap.size):=Lib.hid fun o1 o2=>by have:=HNI.out.bel.size;simp;omega
      have hjn:J + 1 ≤ 4294967296:=by omega
      clear hrow hrr hopn0
      clear hgo3
      go_wp2_with (at_builtin;go_must ((refine wpList_app ((wr.alloc (.cells #[.int .i64 0,.int .i64 (J:Nat),.int .i64 dep,.string (strL name),.slice A m c',.string (strL text),.int .i64 fr,.int .i64 tt] 47)).alloc (.cells #[.int .i64 0,.int .i64 (J:Nat),.int .i64 dep,.string (strL name),.slice A m c',.string (strL text),.int .i64 fr,.int .i64 tt,.int .i64 tp,.int .i64 (J:Nat),.int .i64 (k:Nat),.int .i64 (-1),.string (strL text)] 146)) (by rfl) _ _ 88 (by rfl) w.heap.size 146 i0 _ 13 144 Tryz.underlying88 hi hz0 hz1 hz2 (by rfl) (by decide) (.slice la J lc) J cs (by rfl) (HRW.out _ _) (wr.heap.size + 1 + 1) (by simp) 1 [.int .i64 0,.int .i64 (J:Nat),.int .i64 dep,.string (strL name),.slice A m c',.string (strL text),.int .i64 fr,.int .i64 tt,.int .i64 tp,.int .i64 (J:Nat),.int .i64 (k:Nat),.int .i64 (-1),.string (strL text)] (by rfl) (by rfl) (by intro u hu;simp only [List.mem_cons,List.not_mem_nil,or_false] at hu;rcases hu with rfl | rfl | rfl | rfl | rfl | rfl | rfl | rfl | rfl | rfl | rfl | rfl | rfl <;> rfl) hjn (by decide) (HSZ.out _ _) (fun v7 w7 hown7 hap7=>?_))))
      obtain ⟨g7,c7,rfl,_,hg7a,hg7b,_,_⟩:=own_some hown7
      obtain ⟨hrow,hrr,hopn0,_⟩:=HROW.out
      obtain ⟨hok,hnext,hsnoc,hspec,hinv,hek⟩:=HX.out
      have hnw:rnL ⟨0,(J:Int),dep,name,ats,text,fr,tt⟩ A m c' (rnNew s ⟨0,(J:Int),dep,name,ats,text,fr,tt⟩) = [.int .i64 0,.int .i64 (J:Nat),.int .i64 dep,.string (strL name),.slice A m c',.string (strL text),.int .i64 fr,.int .i64 tt,.int .i64 tp,.int .i64 (J:Nat),.int .i64 (k:Nat),.int .i64 (-1),.string (strL text)]:=by
       unfold rnNew rnL evL evC
       rw [hcntk,htp]
       rfl
      obtain ⟨rs1,hrs1⟩:∃ rs1,rs ++ [rnNew s ⟨0,(J:Int),dep,name,ats,text,fr,tt⟩] = rs1:=⟨_,rfl⟩
      have hrs1l:rs1.length = J + 1:=by rw [← hrs1,List.length_append,hJ];rfl
      have hs2:((wr.alloc (.cells #[.int .i64 0,.int .i64 (J:Nat),.int .i64 dep,.string (strL name),.slice A m c',.string (strL text),.int .i64 fr,.int .i64 tt] 47)).alloc (.cells #[.int .i64 0,.int .i64 (J:Nat),.int .i64 dep,.string (strL name),.slice A m c',.string (strL text),.int .i64 fr,.int .i64 tt,.int .i64 tp,.int .i64 (J:Nat),.int .i64 (k:Nat),.int .i64 (-1),.string (strL text)] 146)).heap.size = wr.heap.size + 2:=by simp
      have hlk:∀ q,Value.ownBlock (.slice la J lc) = some q → w.heap.size ≤ q ∧ q < wr.heap.size:=fun q hq=>hrow.lt q hq
      have hw0:=HNI.out.bel.size
      have hbel7:Below w.heap.size w w7:=(((HNI.out.bel.alloc hw0 (.cells #[.int .i64 0,.int .i64 (J:Nat),.int .i64 dep,.string (strL name),.slice A m c',.string (strL text),.int .i64 fr,.int .i64 tt] 47)).alloc (by simp;omega) (.cells #[.int .i64 0,.int .i64 (J:Nat),.int .i64 dep,.string (strL name),.slice A m c',.string (strL text),.int .i64 fr,.int .i64 tt,.int .i64 tp,.int .i64 (J:Nat),.int .i64 (k:Nat),.int .i64 (-1),.string (strL text)] 146)).alloc (by simp;omega) (.cells #[.int .i64 0,.int .i64 (J:Nat),.int .i64 dep,.string (strL name),.slice A m c',.string (strL text),.int .i64 fr,.int .i64 tt,.int .i64 tp,.int .i64 (J:Nat),.int .i64 (k:Nat),.int .i64 (-1),.string (strL text)] 146)).trans (hap7.below (by simp;omega) (fun q hq=>(hlk q hq).1))
      have hkeep7:∀ q,q < wr.heap.size + 2 → Value.ownBlock (.slice la J lc) ≠ some q → w7.heap[q]? = ((wr.alloc (.cells #[.int .i64 0,.int .i64 (J:Nat),.int .i64 dep,.string (strL name),.slice A m c',.string (strL text),.int .i64 fr,.int .i64 tt] 47)).alloc (.cells #[.int .i64 0,.int .i64 (J:Nat),.int .i64 dep,.string (strL name),.slice A m c',.string (strL text),.int .i64 fr,.int .i64 tt,.int .i64 tp,.int .i64 (J:Nat),.int .i64 (k:Nat),.int .i64 (-1),.string (strL text)] 146)).heap[q]?:=fun q h1 h2=>(hap7.keep (by simp;omega) h2).trans (Below.heap_alloc _ _ _ (by simp;omega))
      have hini:NInv w evs s rs1 (.slice (some ⟨g7,0,none⟩) (J + 1) c7) (.slice (some ⟨go,0,none⟩) (on + 1) oc) w7:=by
       refine ⟨hbel7,⟨cs ++ [.int .i64 0,.int .i64 (J:Nat),.int .i64 dep,.string (strL name),.slice A m c',.string (strL text),.int .i64 fr,.int .i64 tt,.int .i64 tp,.int .i64 (J:Nat),.int .i64 (k:Nat),.int .i64 (-1),.string (strL text)],by rw [hrs1l];exact hown7,?_⟩,?_⟩
       ·rw [← hrs1,← hnw]
        exact hrr.push (by rw [hJ];exact hrow.1) _ ⟨0,(J:Int),dep,name,ats,text,fr,tt⟩ A m c' (by show evs[s.cnt]? = _;rw [hcntk];exact hek) HA.out
       ·rw [hon]
        refine own_block ((hopn0.alloc (.cells #[.int .i64 0,.int .i64 (J:Nat),.int .i64 dep,.string (strL name),.slice A m c',.string (strL text),.int .i64 fr,.int .i64 tt] 47)).alloc (.cells #[.int .i64 0,.int .i64 (J:Nat),.int .i64 dep,.string (strL name),.slice A m c',.string (strL text),.int .i64 fr,.int .i64 tt,.int .i64 tp,.int .i64 (J:Nat),.int .i64 (k:Nat),.int .i64 (-1),.string (strL text)] 146)) (fun q hq=>hkeep7 q (by have:=(hopn0.lt q hq).2;omega) (fun e=>own_ne hrow hopn0 (by decide) q e hq))
      have hebx:w7.heap[wr.heap.size]? = some (.cells #[.int .i64 0,.int .i64 (J:Nat),.int .i64 dep,.string (strL name),.slice A m c',.string (strL text),.int .i64 fr,.int .i64 tt] 47 (0,0)):=by
       rw [hkeep7 _ (by omega) (fun e=>by have:=(hlk _ e).2;omega)]
       exact (Below.heap_alloc _ _ _ (by simp)).trans (heap_alloc_new wr _)
      have HINI:=Lib.hid hini
      have HEBX:=Lib.hid hebx
      have HRS1:=Lib.hid (⟨hrs1,hrs1l⟩:_ ∧ _)
      have HNOD:=Lib.hid (opns_nodup hinv)
      have HVL:Hid (∀ (i:Nat) (r:RN),rs[i]? = some r → r.val.length ≤ 1048576 * 1048576):=Lib.hid fun i r hr=>Nat.le_trans (hspec.val_len (nodesB_last HBS.out) (fun e he=>(HSM.out e (List.mem_of_mem_take he)).2.1) hr) (Nat.mul_le_mul_right _ (by have:=HNUM.out.2.2.1;omega))
      have hwr7:wr.heap.size < w7.heap.size:=heap_lt hebx
      have hg7w:g7 ≠ wr.heap.size:=fun e=>by
       have h1:=hini.row
       obtain ⟨csx,hx1,_⟩:=h1
       exact own_not hx1 hebx (by decide) (by rw [e];rfl)
      clear hrow hrr hopn0 hok hnext hsnoc hspec hinv hek hnw hbel7 hkeep7 hini hebx hown7 hap7 hlk hs2 HRW HSZ HNIA
      go_wp2_with fail
      generalize wr.heap.size = EB at *
      go_loopw [8] (fun kv W=>∃ q:Nat,kv = .int .i64 q ∧ q ≤ (on + 1) ∧ Hid (NInv w evs s (rnOpens ⟨0,(J:Int),dep,name,ats,text,fr,tt⟩ ((opnsOf s).take q) rs1) (.slice (some ⟨g7,0,none⟩) (J + 1) c7) (.slice (some ⟨go,0,none⟩) (on + 1) oc) W ∧ W.heap[EB]? = some (.cells #[.int .i64 0,.int .i64 (J:Nat),.int .i64 dep,.string (strL name),.slice A m c',.string (strL text),.int .i64 fr,.int .i64 tt] 47 (0,0)))) (fun kv _=>(on + 1) - (intOf kv).toNat)
      case atStart=>exact ⟨0,rfl,Nat.zero_le _,Lib.hid ⟨HINI.out,HEBX.out⟩⟩
      case round =>
       obtain ⟨q,rfl,hq,HQ⟩:=hrel
       by_cases hqn:q < (on + 1)
       ·have hql:q < (opnsOf s).length:=by unfold opnsOf;rw [List.length_map,List.length_reverse,hon];exact hqn
        have hoq:=HNOD.out.2.1 _ (List.getElem_mem hql)
        have hnt:=nodup_take HNOD.out.1 hql
        obtain ⟨jq,hjq⟩:∃ jq:Nat,(opnsOf s)[q] = (jq:Int):=⟨(opnsOf s)[q].toNat,by omega⟩
        have hjJ:jq < J:=by have:=HNUM.out.2.2.1;omega
        obtain ⟨cs9,hrow9,hrr9⟩:=HQ.out.1.row
        have hl9:(rnOpens ⟨0,(J:Int),dep,name,ats,text,fr,tt⟩ ((opnsOf s).take q) rs1).length = J + 1:=by rw [rnOpens_length];exact HRS1.out.2
        rw [hl9] at hrow9
        have hopq:=HQ.out.1.opn
        rw [hon] at hopq
        have hne:g7 ≠ go:=fun e=>own_ne hrow9 hopq (by decide) g7 rfl (by rw [e];rfl)
        have yq:wr.cell? ⟨go,q,none⟩ = some (.int .i64 jq):=by
         have h1:(opnC s)[q]? = some (.int .i64 (jq:Nat)):=by unfold opnC;rw [List.getElem?_map,List.getElem?_eq_getElem hql,hjq];rfl
         have:=hopq.cellAt q (by omega)
         rw [this];exact h1
        obtain ⟨r0,hr0⟩:∃ r0,rs[jq]? = some r0:=⟨_,List.getElem?_eq_getElem (by omega)⟩
        have hr9:(rnOpens ⟨0,(J:Int),dep,name,ats,text,fr,tt⟩ ((opnsOf s).take q) rs1)[jq]? = some r0:=by
         rw [rnOpens_get ⟨0,(J:Int),dep,name,ats,text,fr,tt⟩ _ _ jq (fun o ho=>(HNOD.out.2.1 o (List.mem_of_mem_take ho)).1) (HNOD.out.1.sublist (List.take_sublist _ _)),← HRS1.out.1,List.getElem?_append_left (by omega),hr0]
         rw [hjq] at hnt
         simp [hnt]
        obtain ⟨e9,A9,m9,c9,h91,h92,h93⟩:=hrr9 jq r0 hr9
        have y12:wr.cell? ⟨g7,jq * 13 + 12,none⟩ = some (.string (strL r0.val)):=by
         rw [hrow9.cellAt _ (by omega)];exact h93 12 (by decide)
        obtain ⟨x9,y9⟩:=own_cell hrow9 (jq * 13 + 9) (by omega)
        have zf:=fun j=>hrow9.frozenAt j
        have hvl:=HVL.out jq r0 hr0
        have htl:=HSMK.out.2.1
        simp only at htl
        have f1:wr.cell? ⟨EB,1,none⟩ = some (.int .i64 (J:Nat)):=by rw [cell_heap HQ.out.2];rfl
        have f5:wr.cell? ⟨EB,5,none⟩ = some (.string (strL text)):=by rw [cell_heap HQ.out.2];rfl
        obtain ⟨nv,hnv⟩:∃ nv,r0.val ++ text = nv:=⟨_,rfl⟩
        have ccat:∀ W,(Op.stringOp .add (strL r0.val) (strL text)).run Tryz.prog W = .ok (.string (strL nv)) W:=fun W=>by rw [← hnv];exact run_catL r0.val text (by omega) W
        have HR9:=Lib.hid (⟨hrow9,hrr9,hopq,hr9,hnv,hjq⟩:_ ∧ _ ∧ _ ∧ _ ∧ _ ∧ _)
        obtain ⟨v0,hv0⟩:∃ v0,strL r0.val = v0:=⟨_,rfl⟩
        rw [hv0] at y12 ccat
        have j1:(0:Int) ≤ (jq:Int):=by omega
        have j2:(jq:Int) < (J:Int) + 1:=by omega
        have q1:(0:Int) ≤ (q:Int):=by omega
        have q2:(q:Int) < (on:Int) + 1:=by omega
        have ewq:IntKind.i64.wrap ((q:Int) + 1) = (q:Int) + 1:=IntWalk.i64_in _ (by omega)
        clear hrow9 hrr9 hopq hr9 hnv hjq h91 h92 h93 hnt hoq hr0 hvl hv0 hl9
        have hneE:g7 ≠ EB:=hg7w
        go_wp2_with fail
        go_region_held3 (fun w'=>w'.cell? ⟨go,q,none⟩ = some (.int .i64 jq) ∧ w'.cell? ⟨EB,1,none⟩ = some (.int .i64 (J:Nat))) (go_keep) (fail)
        have HDN:Hid (∀ W:World,(∀ a,W.drew.cell? a = W.cell? a) ∧ (∀ a,W.drew.frozen? a = W.frozen? a) ∧ ∀ k':Nat,W.drew.heap[k']? = W.heap[k']?):=Lib.hid fun W=>⟨fun _=>rfl,fun _=>rfl,fun _=>rfl⟩
        obtain ⟨hrow9,hrr9,hopq,hr9,hnv,hjq⟩:=HR9.out
        have hrowa:((wr.setCell ⟨g7,jq * 13 + 9,none⟩ (.int .i64 (J:Nat))).drew).ownsRow w.heap.size 146 13 (.slice (some ⟨g7,0,none⟩) (J + 1) c7) (J + 1) (cs9.set (jq * 13 + 9) (.int .i64 (J:Nat))):=own_block (hrow9.stored (jq * 13 + 9) (.int .i64 (J:Nat))).1 (fun k' _=>(HDN.out _).2.2 k')
        have hfar:∀ k',k' ≠ g7 → ((wr.setCell ⟨g7,jq * 13 + 9,none⟩ (.int .i64 (J:Nat))).drew).heap[k']? = wr.heap[k']?:=fun k' hk'=>((HDN.out _).2.2 k').trans (Below.heap_setCell _ _ _ _ hk')
        have hbela:Below w.heap.size w ((wr.setCell ⟨g7,jq * 13 + 9,none⟩ (.int .i64 (J:Nat))).drew):=(HQ.out.1.bel.setCell (p:=⟨g7,jq * 13 + 9,none⟩) hg7a _).drew
        obtain ⟨Wa,hWa⟩:∃ Wa,(wr.setCell ⟨g7,jq * 13 + 9,none⟩ (.int .i64 (J:Nat))).drew = Wa:=⟨_,rfl⟩
        rw [hWa] at hrowa hfar hbela ⊢
        have hopa:=own_block hopq (fun k' hk'=>hfar k' (fun e=>hne (by cases hk';exact e.symm)))
        have hera:=(hfar EB (Ne.symm hneE)).trans HQ.out.2
        have yqa:Wa.cell? ⟨go,q,none⟩ = some (.int .i64 jq):=by simp only [World.cell?,hfar go (Ne.symm hne)] at yq ⊢;exact yq
        have f5a:Wa.cell? ⟨EB,5,none⟩ = some (.string (strL text)):=by rw [cell_heap hera];rfl
        have y12a:Wa.cell? ⟨g7,jq * 13 + 12,none⟩ = some (.string v0):=by
         rw [← hWa,(HDN.out _).1,World.cell?_setCell_other _ _ _ _ (fun e=>by injection e with _ e2;omega)];exact y12
        have zfa:=fun j=>hrowa.frozenAt j
        have HRA:=Lib.hid (⟨hrowa,hfar,hbela,hopa,hera⟩:_ ∧ _ ∧ _ ∧ _ ∧ _)
        clear hrow9 hrr9 hopq hr9 hnv hjq hrowa hfar hbela hopa hera hWa yq y12 y9 zf f1 f5
        go_wp2_with fail
        go_region
        obtain ⟨hrowa,hfar,hbela,hopa,hera⟩:=HRA.out
        obtain ⟨hrow9,hrr9,hopq,hr9,hnv,hjq⟩:=HR9.out
        have hl9:(rnOpens ⟨0,(J:Int),dep,name,ats,text,fr,tt⟩ ((opnsOf s).take q) rs1).length = J + 1:=by rw [rnOpens_length];exact HRS1.out.2
        have hrowb:((Wa.setCell ⟨g7,jq * 13 + 12,none⟩ (.string (strL nv))).drew).ownsRow w.heap.size 146 13 (.slice (some ⟨g7,0,none⟩) (J + 1) c7) (J + 1) ((cs9.set (jq * 13 + 9) (.int .i64 (J:Nat))).set (jq * 13 + 12) (.string (strL nv))):=own_block (hrowa.stored (jq * 13 + 12) (.string (strL nv))).1 (fun k' _=>(HDN.out _).2.2 k')
        have hrs':rnOpens ⟨0,(J:Int),dep,name,ats,text,fr,tt⟩ ((opnsOf s).take (q + 1)) rs1 = (rnOpens ⟨0,(J:Int),dep,name,ats,text,fr,tt⟩ ((opnsOf s).take q) rs1).modify jq (rnOpen ⟨0,(J:Int),dep,name,ats,text,fr,tt⟩):=by
         rw [List.take_succ_eq_append_getElem hql,rnOpens_snoc,hjq,Int.toNat_natCast]
        have hset:RnRow w evs ((rnOpens ⟨0,(J:Int),dep,name,ats,text,fr,tt⟩ ((opnsOf s).take q) rs1).modify jq (rnOpen ⟨0,(J:Int),dep,name,ats,text,fr,tt⟩)) ((cs9.set (jq * 13 + 9) (.int .i64 (J:Nat))).set (jq * 13 + 12) (.string (strL nv))):=by
         have h1:=hrr9.set (by rw [hl9];exact hrow9.1) jq 9 (by omega) (by decide) (.int .i64 (J:Nat)) (fun r=>⟨r.pos,r.par,(J:Int),r.clo,r.val⟩) (fun _=>rfl) (fun _ _ _ _ _ _=>rfl)
         have h2:=h1.set (by rw [List.length_modify,hl9,List.length_set];exact hrow9.1) jq 12 (by rw [List.length_modify];omega) (by decide) (.string (strL nv)) (fun r=>⟨r.pos,r.par,r.last,r.clo,r.val ++ text⟩) (fun _=>rfl) (fun e A m c r hr=>by
          rw [List.getElem?_modify,hr9] at hr
          simp at hr
          subst hr
          rw [← hnv]
          rfl)
         rw [modify_two] at h2
         exact h2
        have hfb:∀ k',k' ≠ g7 → ((Wa.setCell ⟨g7,jq * 13 + 12,none⟩ (.string (strL nv))).drew).heap[k']? = Wa.heap[k']?:=fun k' hk'=>((HDN.out _).2.2 k').trans (Below.heap_setCell _ _ _ _ hk')
        have HNEW:Hid (NInv w evs s (rnOpens ⟨0,(J:Int),dep,name,ats,text,fr,tt⟩ ((opnsOf s).take (q + 1)) rs1) (.slice (some ⟨g7,0,none⟩) (J + 1) c7) (.slice (some ⟨go,0,none⟩) (on + 1) oc) ((Wa.setCell ⟨g7,jq * 13 + 12,none⟩ (.string (strL nv))).drew) ∧ ((Wa.setCell ⟨g7,jq * 13 + 12,none⟩ (.string (strL nv))).drew).heap[EB]? = some (.cells #[.int .i64 0,.int .i64 (J:Nat),.int .i64 dep,.string (strL name),.slice A m c',.string (strL text),.int .i64 fr,.int .i64 tt] 47 (0,0))):=Lib.hid (by
         rw [hrs']
         exact ⟨⟨(hbela.setCell (p:=⟨g7,jq * 13 + 12,none⟩) hg7a _).drew,⟨_,by rw [List.length_modify,hl9];exact hrowb,hset⟩,by rw [hon];exact own_block hopa (fun k' hk'=>hfb k' (fun e=>hne (by cases hk';exact e.symm)))⟩,(hfb EB (Ne.symm hneE)).trans hera⟩)
        clear hrowa hfar hbela hopa hera hrow9 hrr9 hopq hr9 hnv hjq hrowb hrs' hset hfb y12a yqa f5a zfa
        go_wp2_with fail
        go_roundw
        case rel=>exact ⟨q + 1,by go_num,by omega,HNEW⟩
        case measure=>simp [intOf];omega
       ·have hqe:q = (on + 1):=by omega
        subst hqe
        have HNXT:Hid (begAll beg0 (evs.take (k + 1)) = some (begNext s ⟨0,(J:Int),dep,name,ats,text,fr,tt⟩)):=Lib.hid HX.out.2.1
        have hsn:=HX.out.2.2.1
        have hfull:(opnsOf s).take (on + 1) = opnsOf s:=List.take_of_length_le (by unfold opnsOf;rw [List.length_map,List.length_reverse,hon];exact Nat.le_refl _)
        have hni:=HQ.out.1
        rw [hfull,← HRS1.out.1] at hni
        have hrl9:(rnOpens ⟨0,(J:Int),dep,name,ats,text,fr,tt⟩ (opnsOf s) (rs ++ [rnNew s ⟨0,(J:Int),dep,name,ats,text,fr,tt⟩])).length = J + 1:=by rw [rnOpens_length,HRS1.out.1];exact HRS1.out.2
        obtain ⟨q1,q2⟩:=opnC_open (s:=s) (e:=⟨0,(J:Int),dep,name,ats,text,fr,tt⟩) rfl
        have HSN:Hid (rnAll beg0 [] (evs.take (k + 1)) = rnOpens ⟨0,(J:Int),dep,name,ats,text,fr,tt⟩ (opnsOf s) (rs ++ [rnNew s ⟨0,(J:Int),dep,name,ats,text,fr,tt⟩])):=Lib.hid (by rw [hsn];unfold rnNext;rw [if_neg (show ¬ ((0:Int) = 2) by decide),if_pos rfl])
        have HNF:=Lib.hid hni
        have HOPN:Hid (wr.ownsRow w.heap.size 3 1 (.slice (some ⟨go,0,none⟩) (on + 1) oc) (on + 1) (opnC s)):=Lib.hid (by have:=hni.opn;rw [hon] at this;exact this)
        have hq12:=Lib.hid (⟨q1,q2⟩:_ ∧ _)
        have f0:wr.cell? ⟨EB,0,none⟩ = some (.int .i64 0):=by rw [cell_heap HQ.out.2];rfl
        have f1:wr.cell? ⟨EB,1,none⟩ = some (.int .i64 (J:Nat)):=by rw [cell_heap HQ.out.2];rfl
        have hwsz:=hni.bel.size
        have hon9:(on + 1) + 1 ≤ 4294967296:=by omega
        clear hsn hfull hni q1 q2
        go_wp2_with (at_builtin;go_must ((refine wpList_app wr (by rfl) _ _ 66 (by rfl) w.heap.size 3 j0 (.int .i64 0) 1 8 Tryz.underlying66 hj hjz0 hjz1 hjz2 (by rfl) (by decide) (.slice (some ⟨go,0,none⟩) (on + 1) oc) (on + 1) (opnC s) (by rfl) HOPN.out _ rfl 1 [.int .i64 (J:Nat)] (by rfl) (by rfl) (by intro u hu;simp only [List.mem_cons,List.not_mem_nil,or_false] at hu;subst hu;rfl) hon9 (by decide) hwsz (fun v9 w9 hown9 hap9=>?_))))
        have HNI9:Hid (NInv w evs (begNext s ⟨0,(J:Int),dep,name,ats,text,fr,tt⟩) (rnOpens ⟨0,(J:Int),dep,name,ats,text,fr,tt⟩ (opnsOf s) (rs ++ [rnNew s ⟨0,(J:Int),dep,name,ats,text,fr,tt⟩])) (.slice (some ⟨g7,0,none⟩) (J + 1) c7) v9 w9):=Lib.hid (by
         obtain ⟨n1,⟨cs9,n2,n3⟩,n4⟩:=HNF.out
         refine ⟨(n1.alloc n1.size _).trans (hap9.below (by have:=n1.size;simp;omega) (fun k' hk'=>(HOPN.out.lt k' hk').1)),⟨cs9,own_block (n2.alloc (.cells #[.int .i64 (J:Nat)] 3)) (fun k' hk'=>hap9.keep (by have:=(n2.lt k' hk').2;simp;omega) (fun e=>own_ne n2 HOPN.out (by decide) k' hk' e)),n3⟩,?_⟩
         rw [hq12.out.1,hq12.out.2,hon]
         exact hown9)
        clear hown9 hap9
        go_wp2_with fail
        go_roundw
        case rel=>exact ⟨k + 1,_,by go_num,by omega,HNXT,by rw [HSN.out];exact HNI9⟩
        case measure=>simp [intOf];omega
    ·cases on0 with
     | zero =>
      exfalso
      have hok:=HX.out.1
      have hop0:s.opn = []:=List.eq_nil_of_length_eq_zero hon
      unfold begOk at hok
      rw [if_neg (by simp only;omega),if_pos (by simp only;exact hkd)] at hok
      simp [hop0] at hok
     | succ on =>
      subst hkd
      have hopn0:=HNI.out.opn
      rw [hon] at hopn0
      obtain ⟨go,oc,rfl,hoc,hgo1,hgo2,_,hgo3⟩:=own_some hopn0
      obtain ⟨tp,htp⟩:∃ tp,topOf s.opn = tp:=⟨_,rfl⟩
      have ytop:wr.cell? ⟨go,on,none⟩ = some (.int .i64 tp):=hgo3 on _ (by rw [← htp];exact opnC_top' hon)
      have u1:(0:Int) ≤ (on:Int):=by omega
      have u2:(on:Int) < (on:Int) + 1:=by omega
      have u5:(0:Int) < (on:Int) + 1:=by omega
      have u3':IntKind.i64.wrap ((on:Int) + 1 - 1) = (on:Int):=by rw [show (on:Int) + 1 - 1 = (on:Int) by omega];exact IntWalk.i64_in _ (by omega)
      have u4':IntKind.i64.wrap (on:Int) = (on:Int):=IntWalk.i64_in _ (by omega)
      obtain ⟨cs,hrow,hrr⟩:=HNI.out.row
      rw [hJ] at hrow
      obtain ⟨la,lc,rfl,_,_,_⟩:=own_slice hrow
      have HROW:=Lib.hid (⟨hrow,hrr,hopn0,hon⟩:_ ∧ _ ∧ _ ∧ _)
      have HRW:Hid (∀ o1 o2,((wr.alloc o1).alloc o2).ownsRow w.heap.size 146 13 (.slice la J lc) J cs):=Lib.hid fun o1 o2=>(hrow.alloc o1).alloc o2
      have HSZ:Hid (∀ o1 o2,w.heap.size ≤ ((wr.alloc o1).alloc o2).heap.size):=Lib.hid fun o1 o2=>by have:=HNI.out.bel.size;simp;omega
      have hjn:J + 1 ≤ 4294967296:=by omega
      clear hrow hrr hopn0
      clear hgo3
      go_wp2_with (at_builtin;go_must ((refine wpList_app ((wr.alloc (.cells #[.int .i64 1,.int .i64 (J:Nat),.int .i64 dep,.string (strL name),.slice A m c',.string (strL text),.int .i64 fr,.int .i64 tt] 47)).alloc (.cells #[.int .i64 1,.int .i64 (J:Nat),.int .i64 dep,.string (strL name),.slice A m c',.string (strL text),.int .i64 fr,.int .i64 tt,.int .i64 tp,.int .i64 (J:Nat),.int .i64 (k:Nat),.int .i64 (-1),.string (strL text)] 146)) (by rfl) _ _ 88 (by rfl) w.heap.size 146 i0 _ 13 144 Tryz.underlying88 hi hz0 hz1 hz2 (by rfl) (by decide) (.slice la J lc) J cs (by rfl) (HRW.out _ _) (wr.heap.size + 1 + 1) (by simp) 1 [.int .i64 1,.int .i64 (J:Nat),.int .i64 dep,.string (strL name),.slice A m c',.string (strL text),.int .i64 fr,.int .i64 tt,.int .i64 tp,.int .i64 (J:Nat),.int .i64 (k:Nat),.int .i64 (-1),.string (strL text)] (by rfl) (by rfl) (by intro u hu;simp only [List.mem_cons,List.not_mem_nil,or_false] at hu;rcases hu with rfl | rfl | rfl | rfl | rfl | rfl | rfl | rfl | rfl | rfl | rfl | rfl | rfl <;> rfl) hjn (by decide) (HSZ.out _ _) (fun v7 w7 hown7 hap7=>?_))))
      obtain ⟨g7,c7,rfl,_,hg7a,hg7b,_,_⟩:=own_some hown7
      obtain ⟨hrow,hrr,hopn0,_⟩:=HROW.out
      obtain ⟨hok,hnext,hsnoc,hspec,hinv,hek⟩:=HX.out
      have hnw:rnL ⟨1,(J:Int),dep,name,ats,text,fr,tt⟩ A m c' (rnNew s ⟨1,(J:Int),dep,name,ats,text,fr,tt⟩) = [.int .i64 1,.int .i64 (J:Nat),.int .i64 dep,.string (strL name),.slice A m c',.string (strL text),.int .i64 fr,.int .i64 tt,.int .i64 tp,.int .i64 (J:Nat),.int .i64 (k:Nat),.int .i64 (-1),.string (strL text)]:=by
       unfold rnNew rnL evL evC
       rw [hcntk,htp]
       rfl
      obtain ⟨rs1,hrs1⟩:∃ rs1,rs ++ [rnNew s ⟨1,(J:Int),dep,name,ats,text,fr,tt⟩] = rs1:=⟨_,rfl⟩
      have hrs1l:rs1.length = J + 1:=by rw [← hrs1,List.length_append,hJ];rfl
      have hs2:((wr.alloc (.cells #[.int .i64 1,.int .i64 (J:Nat),.int .i64 dep,.string (strL name),.slice A m c',.string (strL text),.int .i64 fr,.int .i64 tt] 47)).alloc (.cells #[.int .i64 1,.int .i64 (J:Nat),.int .i64 dep,.string (strL name),.slice A m c',.string (strL text),.int .i64 fr,.int .i64 tt,.int .i64 tp,.int .i64 (J:Nat),.int .i64 (k:Nat),.int .i64 (-1),.string (strL text)] 146)).heap.size = wr.heap.size + 2:=by simp
      have hlk:∀ q,Value.ownBlock (.slice la J lc) = some q → w.heap.size ≤ q ∧ q < wr.heap.size:=fun q hq=>hrow.lt q hq
      have hw0:=HNI.out.bel.size
      have hbel7:Below w.heap.size w w7:=(((HNI.out.bel.alloc hw0 (.cells #[.int .i64 1,.int .i64 (J:Nat),.int .i64 dep,.string (strL name),.slice A m c',.string (strL text),.int .i64 fr,.int .i64 tt] 47)).alloc (by simp;omega) (.cells #[.int .i64 1,.int .i64 (J:Nat),.int .i64 dep,.string (strL name),.slice A m c',.string (strL text),.int .i64 fr,.int .i64 tt,.int .i64 tp,.int .i64 (J:Nat),.int .i64 (k:Nat),.int .i64 (-1),.string (strL text)] 146)).alloc (by simp;omega) (.cells #[.int .i64 1,.int .i64 (J:Nat),.int .i64 dep,.string (strL name),.slice A m c',.string (strL text),.int .i64 fr,.int .i64 tt,.int .i64 tp,.int .i64 (J:Nat),.int .i64 (k:Nat),.int .i64 (-1),.string (strL text)] 146)).trans (hap7.below (by simp;omega) (fun q hq=>(hlk q hq).1))
      have hkeep7:∀ q,q < wr.heap.size + 2 → Value.ownBlock (.slice la J lc) ≠ some q → w7.heap[q]? = ((wr.alloc (.cells #[.int .i64 1,.int .i64 (J:Nat),.int .i64 dep,.string (strL name),.slice A m c',.string (strL text),.int .i64 fr,.int .i64 tt] 47)).alloc (.cells #[.int .i64 1,.int .i64 (J:Nat),.int .i64 dep,.string (strL name),.slice A m c',.string (strL text),.int .i64 fr,.int .i64 tt,.int .i64 tp,.int .i64 (J:Nat),.int .i64 (k:Nat),.int .i64 (-1),.string (strL text)] 146)).heap[q]?:=fun q h1 h2=>(hap7.keep (by simp;omega) h2).trans (Below.heap_alloc _ _ _ (by simp;omega))
      have hini:NInv w evs s rs1 (.slice (some ⟨g7,0,none⟩) (J + 1) c7) (.slice (some ⟨go,0,none⟩) (on + 1) oc) w7:=by
       refine ⟨hbel7,⟨cs ++ [.int .i64 1,.int .i64 (J:Nat),.int .i64 dep,.string (strL name),.slice A m c',.string (strL text),.int .i64 fr,.int .i64 tt,.int .i64 tp,.int .i64 (J:Nat),.int .i64 (k:Nat),.int .i64 (-1),.string (strL text)],by rw [hrs1l];exact hown7,?_⟩,?_⟩
       ·rw [← hrs1,← hnw]
        exact hrr.push (by rw [hJ];exact hrow.1) _ ⟨1,(J:Int),dep,name,ats,text,fr,tt⟩ A m c' (by show evs[s.cnt]? = _;rw [hcntk];exact hek) HA.out
       ·rw [hon]
        refine own_block ((hopn0.alloc (.cells #[.int .i64 1,.int .i64 (J:Nat),.int .i64 dep,.string (strL name),.slice A m c',.string (strL text),.int .i64 fr,.int .i64 tt] 47)).alloc (.cells #[.int .i64 1,.int .i64 (J:Nat),.int .i64 dep,.string (strL name),.slice A m c',.string (strL text),.int .i64 fr,.int .i64 tt,.int .i64 tp,.int .i64 (J:Nat),.int .i64 (k:Nat),.int .i64 (-1),.string (strL text)] 146)) (fun q hq=>hkeep7 q (by have:=(hopn0.lt q hq).2;omega) (fun e=>own_ne hrow hopn0 (by decide) q e hq))
      have hebx:w7.heap[wr.heap.size]? = some (.cells #[.int .i64 1,.int .i64 (J:Nat),.int .i64 dep,.string (strL name),.slice A m c',.string (strL text),.int .i64 fr,.int .i64 tt] 47 (0,0)):=by
       rw [hkeep7 _ (by omega) (fun e=>by have:=(hlk _ e).2;omega)]
       exact (Below.heap_alloc _ _ _ (by simp)).trans (heap_alloc_new wr _)
      have HINI:=Lib.hid hini
      have HEBX:=Lib.hid hebx
      have HRS1:=Lib.hid (⟨hrs1,hrs1l⟩:_ ∧ _)
      have HNOD:=Lib.hid (opns_nodup hinv)
      have HVL:Hid (∀ (i:Nat) (r:RN),rs[i]? = some r → r.val.length ≤ 1048576 * 1048576):=Lib.hid fun i r hr=>Nat.le_trans (hspec.val_len (nodesB_last HBS.out) (fun e he=>(HSM.out e (List.mem_of_mem_take he)).2.1) hr) (Nat.mul_le_mul_right _ (by have:=HNUM.out.2.2.1;omega))
      have hwr7:wr.heap.size < w7.heap.size:=heap_lt hebx
      have hg7w:g7 ≠ wr.heap.size:=fun e=>by
       have h1:=hini.row
       obtain ⟨csx,hx1,_⟩:=h1
       exact own_not hx1 hebx (by decide) (by rw [e];rfl)
      clear hrow hrr hopn0 hok hnext hsnoc hspec hinv hek hnw hbel7 hkeep7 hini hebx hown7 hap7 hlk hs2 HRW HSZ HNIA
      go_wp2_with fail
      generalize wr.heap.size = EB at *
      go_loopw [8] (fun kv W=>∃ q:Nat,kv = .int .i64 q ∧ q ≤ (on + 1) ∧ Hid (NInv w evs s (rnOpens ⟨1,(J:Int),dep,name,ats,text,fr,tt⟩ ((opnsOf s).take q) rs1) (.slice (some ⟨g7,0,none⟩) (J + 1) c7) (.slice (some ⟨go,0,none⟩) (on + 1) oc) W ∧ W.heap[EB]? = some (.cells #[.int .i64 1,.int .i64 (J:Nat),.int .i64 dep,.string (strL name),.slice A m c',.string (strL text),.int .i64 fr,.int .i64 tt] 47 (0,0)))) (fun kv _=>(on + 1) - (intOf kv).toNat)
      case atStart=>exact ⟨0,rfl,Nat.zero_le _,Lib.hid ⟨HINI.out,HEBX.out⟩⟩
      case round =>
       obtain ⟨q,rfl,hq,HQ⟩:=hrel
       by_cases hqn:q < (on + 1)
       ·have hql:q < (opnsOf s).length:=by unfold opnsOf;rw [List.length_map,List.length_reverse,hon];exact hqn
        have hoq:=HNOD.out.2.1 _ (List.getElem_mem hql)
        have hnt:=nodup_take HNOD.out.1 hql
        obtain ⟨jq,hjq⟩:∃ jq:Nat,(opnsOf s)[q] = (jq:Int):=⟨(opnsOf s)[q].toNat,by omega⟩
        have hjJ:jq < J:=by have:=HNUM.out.2.2.1;omega
        obtain ⟨cs9,hrow9,hrr9⟩:=HQ.out.1.row
        have hl9:(rnOpens ⟨1,(J:Int),dep,name,ats,text,fr,tt⟩ ((opnsOf s).take q) rs1).length = J + 1:=by rw [rnOpens_length];exact HRS1.out.2
        rw [hl9] at hrow9
        have hopq:=HQ.out.1.opn
        rw [hon] at hopq
        have hne:g7 ≠ go:=fun e=>own_ne hrow9 hopq (by decide) g7 rfl (by rw [e];rfl)
        have yq:wr.cell? ⟨go,q,none⟩ = some (.int .i64 jq):=by
         have h1:(opnC s)[q]? = some (.int .i64 (jq:Nat)):=by unfold opnC;rw [List.getElem?_map,List.getElem?_eq_getElem hql,hjq];rfl
         have:=hopq.cellAt q (by omega)
         rw [this];exact h1
        obtain ⟨r0,hr0⟩:∃ r0,rs[jq]? = some r0:=⟨_,List.getElem?_eq_getElem (by omega)⟩
        have hr9:(rnOpens ⟨1,(J:Int),dep,name,ats,text,fr,tt⟩ ((opnsOf s).take q) rs1)[jq]? = some r0:=by
         rw [rnOpens_get ⟨1,(J:Int),dep,name,ats,text,fr,tt⟩ _ _ jq (fun o ho=>(HNOD.out.2.1 o (List.mem_of_mem_take ho)).1) (HNOD.out.1.sublist (List.take_sublist _ _)),← HRS1.out.1,List.getElem?_append_left (by omega),hr0]
         rw [hjq] at hnt
         simp [hnt]
        obtain ⟨e9,A9,m9,c9,h91,h92,h93⟩:=hrr9 jq r0 hr9
        have y12:wr.cell? ⟨g7,jq * 13 + 12,none⟩ = some (.string (strL r0.val)):=by
         rw [hrow9.cellAt _ (by omega)];exact h93 12 (by decide)
        obtain ⟨x9,y9⟩:=own_cell hrow9 (jq * 13 + 9) (by omega)
        have zf:=fun j=>hrow9.frozenAt j
        have hvl:=HVL.out jq r0 hr0
        have htl:=HSMK.out.2.1
        simp only at htl
        have f1:wr.cell? ⟨EB,1,none⟩ = some (.int .i64 (J:Nat)):=by rw [cell_heap HQ.out.2];rfl
        have f5:wr.cell? ⟨EB,5,none⟩ = some (.string (strL text)):=by rw [cell_heap HQ.out.2];rfl
        obtain ⟨nv,hnv⟩:∃ nv,r0.val ++ text = nv:=⟨_,rfl⟩
        have ccat:∀ W,(Op.stringOp .add (strL r0.val) (strL text)).run Tryz.prog W = .ok (.string (strL nv)) W:=fun W=>by rw [← hnv];exact run_catL r0.val text (by omega) W
        have HR9:=Lib.hid (⟨hrow9,hrr9,hopq,hr9,hnv,hjq⟩:_ ∧ _ ∧ _ ∧ _ ∧ _ ∧ _)
        obtain ⟨v0,hv0⟩:∃ v0,strL r0.val = v0:=⟨_,rfl⟩
        rw [hv0] at y12 ccat
        have j1:(0:Int) ≤ (jq:Int):=by omega
        have j2:(jq:Int) < (J:Int) + 1:=by omega
        have q1:(0:Int) ≤ (q:Int):=by omega
        have q2:(q:Int) < (on:Int) + 1:=by omega
        have ewq:IntKind.i64.wrap ((q:Int) + 1) = (q:Int) + 1:=IntWalk.i64_in _ (by omega)
        clear hrow9 hrr9 hopq hr9 hnv hjq h91 h92 h93 hnt hoq hr0 hvl hv0 hl9
        have hneE:g7 ≠ EB:=hg7w
        go_wp2_with fail
        go_region_held3 (fun w'=>w'.cell? ⟨go,q,none⟩ = some (.int .i64 jq) ∧ w'.cell? ⟨EB,1,none⟩ = some (.int .i64 (J:Nat))) (go_keep) (fail)
        have HDN:Hid (∀ W:World,(∀ a,W.drew.cell? a = W.cell? a) ∧ (∀ a,W.drew.frozen? a = W.frozen? a) ∧ ∀ k':Nat,W.drew.heap[k']? = W.heap[k']?):=Lib.hid fun W=>⟨fun _=>rfl,fun _=>rfl,fun _=>rfl⟩
        obtain ⟨hrow9,hrr9,hopq,hr9,hnv,hjq⟩:=HR9.out
        have hrowa:((wr.setCell ⟨g7,jq * 13 + 9,none⟩ (.int .i64 (J:Nat))).drew).ownsRow w.heap.size 146 13 (.slice (some ⟨g7,0,none⟩) (J + 1) c7) (J + 1) (cs9.set (jq * 13 + 9) (.int .i64 (J:Nat))):=own_block (hrow9.stored (jq * 13 + 9) (.int .i64 (J:Nat))).1 (fun k' _=>(HDN.out _).2.2 k')
        have hfar:∀ k',k' ≠ g7 → ((wr.setCell ⟨g7,jq * 13 + 9,none⟩ (.int .i64 (J:Nat))).drew).heap[k']? = wr.heap[k']?:=fun k' hk'=>((HDN.out _).2.2 k').trans (Below.heap_setCell _ _ _ _ hk')
        have hbela:Below w.heap.size w ((wr.setCell ⟨g7,jq * 13 + 9,none⟩ (.int .i64 (J:Nat))).drew):=(HQ.out.1.bel.setCell (p:=⟨g7,jq * 13 + 9,none⟩) hg7a _).drew
        obtain ⟨Wa,hWa⟩:∃ Wa,(wr.setCell ⟨g7,jq * 13 + 9,none⟩ (.int .i64 (J:Nat))).drew = Wa:=⟨_,rfl⟩
        rw [hWa] at hrowa hfar hbela ⊢
        have hopa:=own_block hopq (fun k' hk'=>hfar k' (fun e=>hne (by cases hk';exact e.symm)))
        have hera:=(hfar EB (Ne.symm hneE)).trans HQ.out.2
        have yqa:Wa.cell? ⟨go,q,none⟩ = some (.int .i64 jq):=by simp only [World.cell?,hfar go (Ne.symm hne)] at yq ⊢;exact yq
        have f5a:Wa.cell? ⟨EB,5,none⟩ = some (.string (strL text)):=by rw [cell_heap hera];rfl
        have y12a:Wa.cell? ⟨g7,jq * 13 + 12,none⟩ = some (.string v0):=by
         rw [← hWa,(HDN.out _).1,World.cell?_setCell_other _ _ _ _ (fun e=>by injection e with _ e2;omega)];exact y12
        have zfa:=fun j=>hrowa.frozenAt j
        have HRA:=Lib.hid (⟨hrowa,hfar,hbela,hopa,hera⟩:_ ∧ _ ∧ _ ∧ _ ∧ _)
        clear hrow9 hrr9 hopq hr9 hnv hjq hrowa hfar hbela hopa hera hWa yq y12 y9 zf f1 f5
        go_wp2_with fail
        go_region
        obtain ⟨hrowa,hfar,hbela,hopa,hera⟩:=HRA.out
        obtain ⟨hrow9,hrr9,hopq,hr9,hnv,hjq⟩:=HR9.out
        have hl9:(rnOpens ⟨1,(J:Int),dep,name,ats,text,fr,tt⟩ ((opnsOf s).take q) rs1).length = J + 1:=by rw [rnOpens_length];exact HRS1.out.2
        have hrowb:((Wa.setCell ⟨g7,jq * 13 + 12,none⟩ (.string (strL nv))).drew).ownsRow w.heap.size 146 13 (.slice (some ⟨g7,0,none⟩) (J + 1) c7) (J + 1) ((cs9.set (jq * 13 + 9) (.int .i64 (J:Nat))).set (jq * 13 + 12) (.string (strL nv))):=own_block (hrowa.stored (jq * 13 + 12) (.string (strL nv))).1 (fun k' _=>(HDN.out _).2.2 k')
        have hrs':rnOpens ⟨1,(J:Int),dep,name,ats,text,fr,tt⟩ ((opnsOf s).take (q + 1)) rs1 = (rnOpens ⟨1,(J:Int),dep,name,ats,text,fr,tt⟩ ((opnsOf s).take q) rs1).modify jq (rnOpen ⟨1,(J:Int),dep,name,ats,text,fr,tt⟩):=by
         rw [List.take_succ_eq_append_getElem hql,rnOpens_snoc,hjq,Int.toNat_natCast]
        have hset:RnRow w evs ((rnOpens ⟨1,(J:Int),dep,name,ats,text,fr,tt⟩ ((opnsOf s).take q) rs1).modify jq (rnOpen ⟨1,(J:Int),dep,name,ats,text,fr,tt⟩)) ((cs9.set (jq * 13 + 9) (.int .i64 (J:Nat))).set (jq * 13 + 12) (.string (strL nv))):=by
         have h1:=hrr9.set (by rw [hl9];exact hrow9.1) jq 9 (by omega) (by decide) (.int .i64 (J:Nat)) (fun r=>⟨r.pos,r.par,(J:Int),r.clo,r.val⟩) (fun _=>rfl) (fun _ _ _ _ _ _=>rfl)
         have h2:=h1.set (by rw [List.length_modify,hl9,List.length_set];exact hrow9.1) jq 12 (by rw [List.length_modify];omega) (by decide) (.string (strL nv)) (fun r=>⟨r.pos,r.par,r.last,r.clo,r.val ++ text⟩) (fun _=>rfl) (fun e A m c r hr=>by
          rw [List.getElem?_modify,hr9] at hr
          simp at hr
          subst hr
          rw [← hnv]
          rfl)
         rw [modify_two] at h2
         exact h2
        have hfb:∀ k',k' ≠ g7 → ((Wa.setCell ⟨g7,jq * 13 + 12,none⟩ (.string (strL nv))).drew).heap[k']? = Wa.heap[k']?:=fun k' hk'=>((HDN.out _).2.2 k').trans (Below.heap_setCell _ _ _ _ hk')
        have HNEW:Hid (NInv w evs s (rnOpens ⟨1,(J:Int),dep,name,ats,text,fr,tt⟩ ((opnsOf s).take (q + 1)) rs1) (.slice (some ⟨g7,0,none⟩) (J + 1) c7) (.slice (some ⟨go,0,none⟩) (on + 1) oc) ((Wa.setCell ⟨g7,jq * 13 + 12,none⟩ (.string (strL nv))).drew) ∧ ((Wa.setCell ⟨g7,jq * 13 + 12,none⟩ (.string (strL nv))).drew).heap[EB]? = some (.cells #[.int .i64 1,.int .i64 (J:Nat),.int .i64 dep,.string (strL name),.slice A m c',.string (strL text),.int .i64 fr,.int .i64 tt] 47 (0,0))):=Lib.hid (by
         rw [hrs']
         exact ⟨⟨(hbela.setCell (p:=⟨g7,jq * 13 + 12,none⟩) hg7a _).drew,⟨_,by rw [List.length_modify,hl9];exact hrowb,hset⟩,by rw [hon];exact own_block hopa (fun k' hk'=>hfb k' (fun e=>hne (by cases hk';exact e.symm)))⟩,(hfb EB (Ne.symm hneE)).trans hera⟩)
        clear hrowa hfar hbela hopa hera hrow9 hrr9 hopq hr9 hnv hjq hrowb hrs' hset hfb y12a yqa f5a zfa
        go_wp2_with fail
        go_roundw
        case rel=>exact ⟨q + 1,by go_num,by omega,HNEW⟩
        case measure=>simp [intOf];omega
       ·have hqe:q = (on + 1):=by omega
        subst hqe
        have HNXT:Hid (begAll beg0 (evs.take (k + 1)) = some (begNext s ⟨1,(J:Int),dep,name,ats,text,fr,tt⟩)):=Lib.hid HX.out.2.1
        have hsn:=HX.out.2.2.1
        have hfull:(opnsOf s).take (on + 1) = opnsOf s:=List.take_of_length_le (by unfold opnsOf;rw [List.length_map,List.length_reverse,hon];exact Nat.le_refl _)
        have hni:=HQ.out.1
        rw [hfull,← HRS1.out.1] at hni
        have hrl9:(rnOpens ⟨1,(J:Int),dep,name,ats,text,fr,tt⟩ (opnsOf s) (rs ++ [rnNew s ⟨1,(J:Int),dep,name,ats,text,fr,tt⟩])).length = J + 1:=by rw [rnOpens_length,HRS1.out.1];exact HRS1.out.2
        obtain ⟨q1,q2⟩:=opnC_text (s:=s) (e:=⟨1,(J:Int),dep,name,ats,text,fr,tt⟩) rfl
        have HSN:Hid (rnAll beg0 [] (evs.take (k + 1)) = (rnOpens ⟨1,(J:Int),dep,name,ats,text,fr,tt⟩ (opnsOf s) (rs ++ [rnNew s ⟨1,(J:Int),dep,name,ats,text,fr,tt⟩])).modify J (rnClo s.cnt)):=Lib.hid (by rw [hsn];unfold rnNext;rw [if_neg (show ¬ ((1:Int) = 2) by decide),if_neg (show ¬ ((1:Int) = 0) by decide)];simp)
        have HNF:=Lib.hid hni
        have hq12:=Lib.hid (⟨q1,q2,hrl9⟩:_ ∧ _ ∧ _)
        have f0:wr.cell? ⟨EB,0,none⟩ = some (.int .i64 1):=by rw [cell_heap HQ.out.2];rfl
        have f1:wr.cell? ⟨EB,1,none⟩ = some (.int .i64 (J:Nat)):=by rw [cell_heap HQ.out.2];rfl
        obtain ⟨cs9,hrow9,hrr9⟩:=hni.row
        rw [hrl9] at hrow9
        obtain ⟨x11,y11⟩:=own_cell hrow9 (J * 13 + 11) (by omega)
        have zf:=fun j=>hrow9.frozenAt j
        have HR9:=Lib.hid (⟨hrow9,hrr9⟩:_ ∧ _)
        have j1:(0:Int) ≤ (J:Int):=by omega
        have j2:(J:Int) < (J:Int) + 1:=by omega
        clear hsn hfull hni q1 q2 hrow9 hrr9
        go_wp2_with fail
        have HNI9:Hid (NInv w evs (begNext s ⟨1,(J:Int),dep,name,ats,text,fr,tt⟩) ((rnOpens ⟨1,(J:Int),dep,name,ats,text,fr,tt⟩ (opnsOf s) (rs ++ [rnNew s ⟨1,(J:Int),dep,name,ats,text,fr,tt⟩])).modify J (rnClo s.cnt)) (.slice (some ⟨g7,0,none⟩) (J + 1) c7) (.slice (some ⟨go,0,none⟩) (on + 1) oc) (wr.setCell ⟨g7,J * 13 + 11,none⟩ (.int .i64 (k:Nat)))):=Lib.hid (by
         obtain ⟨n1,_,n4⟩:=HNF.out
         obtain ⟨hrow9,hrr9⟩:=HR9.out
         refine ⟨n1.setCell (p:=⟨g7,J * 13 + 11,none⟩) hg7a _,⟨cs9.set (J * 13 + 11) (.int .i64 (k:Nat)),?_,?_⟩,?_⟩
         ·rw [List.length_modify,hq12.out.2.2];exact (hrow9.stored (J * 13 + 11) (.int .i64 (k:Nat))).1
         ·refine hrr9.set (by rw [hq12.out.2.2];exact hrow9.1) J 11 (by rw [hq12.out.2.2];omega) (by decide) _ _ (fun _=>rfl) (fun e' A' m' c'' r' _=>?_)
          rw [hcntk];rfl
         ·rw [hq12.out.1,hq12.out.2.1]
          exact own_block n4 (fun k' hk'=>Below.heap_setCell _ _ _ _ (fun e=>own_ne hrow9 n4 (by decide) g7 rfl (by rw [hk'];exact congrArg some e))))
        go_roundw
        case rel=>exact ⟨k + 1,_,by go_num,by omega,HNXT,by rw [HSN.out];exact HNI9⟩
        case measure=>simp [intOf];omega
  ·have hk2:k = n:=by omega
   subst hk2
   have hni:=HNI.out
   have hbs:=HBS.out
   have hfull:evs.take k = evs:=List.take_of_length_le (by rw [← HN.out];exact Nat.le_refl _)
   rw [hfull] at hni hbs
   obtain ⟨n1,⟨cs,n2,n3⟩,_⟩:=hni
   obtain ⟨la,lc,rfl,_,_,hlas⟩:=own_slice n2
   have HRN:Hid (RbMem wr la evs (rnAll beg0 [] evs)):=Lib.hid (fun i r hr=>by
    obtain ⟨e,A,m,c1,q1,q2,q3⟩:=n3 i r hr
    have hil:=get_lt hr
    have hll:=n2.1
    cases la with
    | none =>
     have hz:=(own_slice n2)
     obtain ⟨a9,c9,e9,_,h9,_⟩:=hz
     cases e9
     have:=h9 rfl
     omega
    | some ad =>
     obtain ⟨g,rfl,hg1,hg2,_,_⟩:=hlas ad rfl
     exact ⟨g,e,A,m,c1,rfl,hg2,q1,q2.below n1,fun j hj=>by rw [n2.cellAt _ (by omega)];exact q3 j hj⟩)
   have HN1:=Lib.hid n1
   clear n1 n2 n3 hlas hbs hfull
   go_wp2_with fail
   go_ret
   exact ⟨la,lc,rfl,HRN.out,HN1.out⟩
end Go.Proofs.YtgjokdngbocehaaGreatDoor
