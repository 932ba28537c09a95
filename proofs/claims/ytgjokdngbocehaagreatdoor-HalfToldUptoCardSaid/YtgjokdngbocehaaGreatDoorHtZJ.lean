/-
  A beginning's nodes are linked with the answer's.
-/
import Derived.Test.YtgjokdngbocehaaGreatDoorCards
import Derived.Test.YtgjokdngbocehaaGreatDoorTie
import Derived.Deep.DeepHandedRow
import Derived.Deep.DeepWitnessRowRef
import Derived.JoinedCond
import Derived.SliceStrings
import Derived.Carry
import Derived.PinnedBridge
import Derived.Stop.LaidErr
import Derived.Test.YtgjokdngbocehaaGreatDoorHtA
import Derived.Test.YtgjokdngbocehaaGreatDoorHtD
import Derived.Test.YtgjokdngbocehaaGreatDoorHtE
import Derived.Test.YtgjokdngbocehaaGreatDoorHtF
import Derived.Test.YtgjokdngbocehaaGreatDoorHtG
import Derived.Test.YtgjokdngbocehaaGreatDoorHtI
import Derived.Test.YtgjokdngbocehaaGreatDoorHtK
import Derived.Test.YtgjokdngbocehaaGreatDoorHtR
import Derived.Test.YtgjokdngbocehaaGreatDoorHtT
import Derived.Test.YtgjokdngbocehaaGreatDoorHtV
import Derived.Test.YtgjokdngbocehaaGreatDoorHtW
import Derived.Test.YtgjokdngbocehaaGreatDoorHtX
import Derived.Test.YtgjokdngbocehaaGreatDoorHtY
import Derived.Test.YtgjokdngbocehaaGreatDoorHtZA
import Derived.Test.YtgjokdngbocehaaGreatDoorHtZB
import Derived.Test.YtgjokdngbocehaaGreatDoorHtZC
import Derived.Test.YtgjokdngbocehaaGreatDoorHtZE
import Derived.Test.YtgjokdngbocehaaGreatDoorHtZG
import Derived.Test.YtgjokdngbocehaaGreatDoorHtZH
import Derived.Test.YtgjokdngbocehaaGreatDoorHtZI
namespace Go.Proofs.YtgjokdngbocehaaGreatDoor
open Go.RowKit
theorem readN_at {evs:List Ev} {st:BegS} (i:Nat):(readN evs st)[i + 1]? = (hAll evs.length evs evs.length).1[i + 1]?:=by
 unfold readN
 rw [List.getElem?_modify]
 cases (hAll evs.length evs evs.length).1[i + 1]? <;> simp
theorem readN_root {evs:List Ev} {st:BegS}:(readN evs st)[0]? = (hAll evs.length evs evs.length).1[0]?.map fun h=>{ h with op:=!decide (st.opn = [] ∧ st.cnt ≠ 0) }:=by
 unfold readN
 rw [List.getElem?_modify]
 cases (hAll evs.length evs evs.length).1[0]? <;> simp
theorem beg_rel {evs:List Ev} {st:BegS} (h:begAll beg0 evs = some st):RbR evs.length evs st (hAll evs.length evs evs.length).1 (hAll evs.length evs evs.length).2 (rnAll beg0 [] evs):=by
 have:=RbR.all evs.length evs evs.length (Nat.le_refl _) st (by rw [List.take_length];exact h)
 rwa [List.take_length] at this
theorem open_up {evs:List Ev} {st:BegS} (h:begAll beg0 evs = some st) (i:Nat) (r:RN) (hr:(rnAll beg0 [] evs)[i]? = some r) (hc:r.clo < 0):isOpn st i ∧ (r.par = -1 ∨ (0 ≤ r.par ∧ isOpn st r.par)):=by
 have hs:=rnAll_spec h
 have hx:(nodesB evs)[i]? = some ((nodesB evs)[i]'(by have:=get_lt hr;have:=hs.len;omega)):=List.getElem?_eq_getElem _
 obtain ⟨r',g1,g2,g3,g4,g5⟩:=hs.at' i _ hx
 rw [hr] at g1
 cases g1
 have hrg:=(nodesB_inv h).rng i _ hx
 have ho:isOpn st i:=by
  by_cases ho:isOpn st i
  ·exact ho
  ·have:=(g5 ho).2.1;omega
 refine ⟨ho,?_⟩
 have hax:=nodesB_ax h
 have hpl:=hax.plt i _ hx
 by_cases hn:r.par = -1
 ·exact .inl hn
 ·refine .inr ⟨by omega,?_⟩
  obtain ⟨o,ho1,ho2⟩:=ho
  obtain ⟨u,v,huv⟩:=List.append_of_mem ho1
  obtain ⟨x',hx1,hx2⟩:=hax.par o v ⟨u,huv.symm⟩
  have:o.1.toNat = i:=by omega
  rw [this,hx] at hx1
  cases hx1
  unfold topOf at hx2
  cases hv:v with
  | nil=>rw [hv] at hx2;simp at hx2;omega
  | cons a v' =>
   rw [hv] at hx2
   simp at hx2
   exact ⟨a,by rw [huv,hv];simp,by omega⟩
theorem opI_of {hs:List HN} {k:Nat} {h:HN} (hk:hs[k]? = some h):opI hs k = if h.op then 1 else 0:=by unfold opI;rw [hk];rfl
theorem lk_of {evs:List Ev} {st:BegS} (h:begAll beg0 evs = some st):Lk (readN evs st) (rnAll beg0 [] evs) ∧ ∀ i r,(rnAll beg0 [] evs)[i]? = some r → ((lastR (rnAll beg0 [] evs) i:Nat):Int) = r.last:=by
 have hr:=beg_rel h
 have hlen:(readN evs st).length = (rnAll beg0 [] evs).length + 1:=by
  have:(readN evs st).length = (hAll evs.length evs evs.length).1.length:=List.length_modify _ _ _
  rw [this];exact hr.len
 refine ⟨⟨hlen,fun k hk=>?_,axR_of h,fun k h1 h2=>?_⟩,fun i r hi=>?_⟩
 ·have hrk:(rnAll beg0 [] evs)[k]? = some (rnAll beg0 [] evs)[k]:=List.getElem?_eq_getElem hk
  obtain ⟨y,g1,g2⟩:=hr.at' k _ hrk
  unfold parH parR
  rw [readN_at,g1,hrk]
  show y.par.toNat = _
  rw [g2.2.1];rfl
 ·obtain ⟨i,rfl⟩:∃ i,k = i + 1:=⟨k - 1,by omega⟩
  have hil:i < (rnAll beg0 [] evs).length:=by omega
  have hrk:(rnAll beg0 [] evs)[i]? = some (rnAll beg0 [] evs)[i]:=List.getElem?_eq_getElem hil
  obtain ⟨y,g1,g2⟩:=hr.at' i _ hrk
  have hyk:(readN evs st)[i + 1]? = some y:=by rw [readN_at];exact g1
  rw [opI_of hyk]
  have hp:parH (readN evs st) (i + 1) = ((rnAll beg0 [] evs)[i].par + 1).toNat:=by
   unfold parH;rw [hyk];show y.par.toNat = _;rw [g2.2.1]
  rw [hp]
  cases ho:y.op with
  | false=>exact (opI_3 _ _).1
  | true =>
   have hclo:=(g2.2.2.2.2.2.2.1 ho).1
   obtain ⟨hop,hup⟩:=open_up h i _ hrk (by omega)
   rcases hup with hup | ⟨hup,hpo⟩
   ·have e:((rnAll beg0 [] evs)[i].par + 1).toNat = 0:=by omega
    rw [e]
    obtain ⟨y0,k1,_⟩:=hr.root
    have hy0:(readN evs st)[0]? = some { y0 with op:=!decide (st.opn = [] ∧ st.cnt ≠ 0) }:=by rw [readN_root,k1];rfl
    rw [opI_of hy0]
    have:st.opn ≠ []:=by obtain ⟨o,ho1,_⟩:=hop;intro hnil;rw [hnil] at ho1;cases ho1
    simp [this]
   ·obtain ⟨j,hj⟩:∃ j:Nat,(rnAll beg0 [] evs)[i].par = (j:Int):=⟨(rnAll beg0 [] evs)[i].par.toNat,by omega⟩
    have e:((rnAll beg0 [] evs)[i].par + 1).toNat = j + 1:=by omega
    rw [e]
    have hs:=rnAll_spec h
    have hinv:=nodesB_inv h
    rw [hj] at hpo
    obtain ⟨o,ho1,ho2⟩:=hpo
    have hon:=hinv.opn o ho1
    have hnx:=hinv.nxt
    have hjl:j < (nodesB evs).length:=by omega
    obtain ⟨r',q1,_,_,q4,_⟩:=hs.at' j _ (List.getElem?_eq_getElem hjl)
    have hcl:=(q4 ⟨o,ho1,ho2⟩).2.1
    obtain ⟨y',p1,p2⟩:=hr.at' j r' q1
    have hy':(readN evs st)[j + 1]? = some y':=by rw [readN_at];exact p1
    rw [opI_of hy']
    cases ho':y'.op with
    | true=>exact Int.le_refl _
    | false=>have:=(p2.2.2.2.2.2.2.2.1 ho').1;omega
 ·obtain ⟨x,r',_,g1,_,_,g2,_⟩:=rn_at h i (get_lt hi)
  rw [hi] at g1
  cases g1
  exact g2
theorem rd_of {evs:List Ev} {st:BegS} (h:begAll beg0 evs = some st) {w:World} {an:Option Addr} (hm:RbMem w an evs (rnAll beg0 [] evs)) (hsm:∀ e ∈ evs,EvSm e) (hwt:wtEs evs ≤ 1048576) (hn:evs.length ≤ 400):RD w an (decide (evs ≠ [] ∧ st.opn = [])) evs (readN evs st) (rnAll beg0 [] evs):=by
 have hr:=beg_rel h
 have hok:=beg_hok h
 have hro:=readN_ok hok hsm hwt (by omega)
 have hl:=(lk_of h).1.len
 have hcnt:=(beg_le _ _ _ h).2.2.2
 simp only [beg0] at hcnt
 refine ⟨hm,hl,fun i r hi=>?_,?_,hsm,hro.2.2.2.1,?_⟩
 ·obtain ⟨y,g1,g2⟩:=hr.at' i r hi
  exact ⟨y,by rw [readN_at];exact g1,g2⟩
 ·obtain ⟨y0,k1,k2,_,k4,k5,k6⟩:=hr.root
  refine ⟨{ y0 with op:=!decide (st.opn = [] ∧ st.cnt ≠ 0) },by rw [readN_root,k1];rfl,k2,?_,k4,k5,by show y0.ev.ats = [];rw [k6];rfl⟩
  show (!decide (st.opn = [] ∧ st.cnt ≠ 0)) = !decide (evs ≠ [] ∧ st.opn = [])
  congr 1
  refine decide_eq_decide.2 ⟨fun ⟨a,b⟩=>⟨fun hnil=>?_,a⟩,fun ⟨a,b⟩=>⟨b,fun hz=>a (List.eq_nil_of_length_eq_zero (by omega))⟩⟩
  rw [hnil] at hcnt
  simp at hcnt
  omega
 ·have h1:=hok.len
  have h2:=hr.len
  omega
end Go.Proofs.YtgjokdngbocehaaGreatDoor
namespace Go.Proofs.YtgjokdngbocehaaGreatDoor
open Go.RowKit
theorem RbMem.far {w W:World} {an:Option Addr} {evs:List Ev} {rs:List RN} {b:Nat} {p:Option Addr} {q r:Nat} {z:Bool} {e:TypeId} {fz:Nat × Nat} (h:RbMem w an evs rs) (hb:w.heap[b]? = some (.cells #[.slice p q r,.bool z] e fz)) (hW:∀ j,j ≠ b → W.heap[j]? = w.heap[j]?) (hs:w.heap.size ≤ W.heap.size):RbMem W an evs rs:=by
 have hstr:∀ j s,w.cell? ⟨b,j,none⟩ = some (.string s) → False:=by
  intro j s hc
  rw [cell_heap hb] at hc
  match j with
  | 0=>cases hc
  | 1=>cases hc
  | j + 2=>simp at hc
 have hne:∀ bk j s,w.cell? ⟨bk,j,none⟩ = some (.string s) → bk ≠ b:=fun bk j s hc e=>hstr j s (e ▸ hc)
 have hce:∀ bk j,bk ≠ b → W.cell? ⟨bk,j,none⟩ = w.cell? ⟨bk,j,none⟩:=fun bk j hn=>by simp only [World.cell?,hW bk hn]
 intro i r' hr
 obtain ⟨bk,ev,A,m,c,h1,h2,h3,h4,h5⟩:=h i r' hr
 have hn:=hne bk (i * 13 + 12) (strL r'.val) ((h5 12 (by decide)).trans rfl)
 refine ⟨bk,ev,A,m,c,h1,by omega,h3,⟨h4.1,fun k hk=>?_⟩,fun j hj=>(hce bk _ hn).trans (h5 j hj)⟩
 obtain ⟨bq,o,g1,g2,g3,g4⟩:=h4.2 k hk
 have hq:=hne bq _ _ g3
 exact ⟨bq,o,g1,by omega,(hce _ _ hq).trans g3,(hce _ _ hq).trans g4⟩
set_option maxRecDepth 100000 in
set_option maxHeartbeats 4000000 in
theorem of15_any (a:Option Addr) (n c:Nat) (evs:List Ev) (st:BegS) (w:World) (hE:EvsAt w a n evs) (hst:begAll beg0 evs = some st) (hn:n ≤ 1048576) (hsm:∀ e ∈ evs,EvSm e) :
  Calls Tryz.prog 33 #[.slice a n c] w fun e w'=>∃ an cn,e = .returned (.agg #[.slice an (rnAll beg0 [] evs).length cn,.bool (decide (evs ≠ [] ∧ st.opn = []))]) ∧ RbMem w' an evs (rnAll beg0 [] evs) ∧ Below w.heap.size w w':=by
 obtain ⟨W0,hW0⟩:∃ W0,W0 = w.alloc (.cells #[.slice none 0 0,.bool false] 90):=⟨_,rfl⟩
 have hb0:Below w.heap.size w W0:=by rw [hW0];exact (Below.refl _ _).alloc (Nat.le_refl _) _
 have hk0:W0.heap[w.heap.size]? = some (.cells #[.slice none 0 0,.bool false] 90 (0,0)):=by rw [hW0];exact heap_alloc_new w _
 have hs0:W0.heap.size = w.heap.size + 1:=by rw [hW0];simp
 have HBE:Hid (Calls Tryz.prog 30 #[.slice a n c] W0 fun e w'=>e = .returned (.tuple #[.bool true,.int .i64 (st.opn.length:Int),.bool (decide (evs ≠ [] ∧ st.opn = []))]) ∧ Below W0.heap.size W0 w'):=Lib.hid (by
  have:=begin_any a n c evs W0 (hE.below hb0) hn hsm
  rw [begR_all hst] at this
  exact this)
 have HNO:Hid (∀ W,Below W0.heap.size W0 W → Calls Tryz.prog 58 #[.slice a n c] W fun e w'=>∃ an cn,e = .returned (.slice an (rnAll beg0 [] evs).length cn) ∧ RbMem w' an evs (rnAll beg0 [] evs) ∧ Below W.heap.size W w'):=Lib.hid fun W hW=>nodesR_any a n c evs W (hE.below (hb0.trans (hW.mono hb0.size))) st hst hn hsm
 have HKB:Hid (∀ W,Below W0.heap.size W0 W → W.heap[w.heap.size]? = some (.cells #[.slice none 0 0,.bool false] 90 (0,0))):=Lib.hid fun W hW=>(hW.block _ (by omega)).trans hk0
 have HB0:=Lib.hid hb0
 have HW0:=Lib.hid hW0
 have HS0:=Lib.hid hs0
 generalize (decide (evs ≠ [] ∧ st.opn = [])) = clo at *
 generalize rnAll beg0 [] evs = rs at *
 clear hW0 hb0 hk0 hs0 hE hst hsm
 go_enter Tryz.func33,Tryz.ntmps33
 go_wp2_with fail
 rw [← HW0.out]
 (with_reducible refine HBE.out.mono ?_)
 rintro e w1 ⟨rfl,hb1⟩
 have HB1:=Lib.hid hb1
 have HN1:=Lib.hid (HNO.out w1 hb1)
 clear hb1
 go_wp2_with fail
 (with_reducible refine HN1.out.mono ?_)
 rintro e w2 ⟨an,cn,rfl,hm,hb2⟩
 have hb02:=HB1.out.trans (hb2.mono HB1.out.size)
 have hk2:=HKB.out w2 hb02
 have x0:w2.cell? ⟨w.heap.size,0,none⟩ = some (.slice none 0 0):=by rw [cell_heap hk2];rfl
 have x1:w2.cell? ⟨w.heap.size,1,none⟩ = some (.bool false):=by rw [cell_heap hk2];rfl
 have f0:∀ j,w2.frozen? ⟨w.heap.size,j,none⟩ = false:=fun j=>frozen_heap hk2
 have HM:=Lib.hid hm
 have HB2:=Lib.hid hb02
 have HK2:=Lib.hid hk2
 clear hm hb2 hb02 hk2
 go_wp2_with fail
 have HFW:Hid (∀ v0 v1,RbMem ((w2.setCell ⟨w.heap.size,0,none⟩ v0).setCell ⟨w.heap.size,1,none⟩ v1) an evs rs ∧ Below w.heap.size w ((w2.setCell ⟨w.heap.size,0,none⟩ v0).setCell ⟨w.heap.size,1,none⟩ v1) ∧ ((w2.setCell ⟨w.heap.size,0,none⟩ v0).setCell ⟨w.heap.size,1,none⟩ v1).heap[w.heap.size]? = some (.cells #[v0,v1] 90 (0,0))):=Lib.hid fun v0 v1 =>
  ⟨HM.out.far HK2.out (fun j hj=>(Below.heap_setCell _ _ _ _ hj).trans (Below.heap_setCell _ _ _ _ hj)) (by simp [World.setCell]),
   ((HB0.out.trans (HB2.out.mono HB0.out.size)).setCell (p:=⟨w.heap.size,0,none⟩) (Nat.le_refl _) _).setCell (p:=⟨w.heap.size,1,none⟩) (Nat.le_refl _) _,setCell_heap (setCell_heap HK2.out v0) v1⟩
 obtain ⟨g1,g2,g3⟩:=HFW.out (.slice an rs.length cn) (.bool clo)
 have y0:=cell_heap (i:=0) g3
 have y1:=cell_heap (i:=1) g3
 have G1:=Lib.hid g1
 have G2:=Lib.hid g2
 clear g1 g2 g3 HFW HM HK2
 generalize (w2.setCell ⟨w.heap.size,0,none⟩ (.slice an rs.length cn)).setCell ⟨w.heap.size,1,none⟩ (.bool clo) = WF at *
 have y0':WF.cell? ⟨w.heap.size,0,none⟩ = some (.slice an rs.length cn):=y0
 have y1':WF.cell? ⟨w.heap.size,1,none⟩ = some (.bool clo):=y1
 clear y0 y1
 refine bodyPost_ret (v:=.agg #[.slice an rs.length cn,.bool clo]) ?_ rfl ⟨an,cn,rfl,G1.out,G2.out⟩
 rw [results_cell1H rfl]
 go_simp
end Go.Proofs.YtgjokdngbocehaaGreatDoor
namespace Go.Proofs.YtgjokdngbocehaaGreatDoor
open Go.RowKit
theorem pars_of {evs:List Ev} {st:BegS} (h:begAll beg0 evs = some st):Pars (readN evs st):=by
 have hok:=beg_hok h
 have hl:=(lk_of h).1.len
 have hll:(readN evs st).length = (hAll evs.length evs evs.length).1.length:=List.length_modify _ _ _
 constructor
 ·have hp:=hok.pos
  have h0:(hAll evs.length evs evs.length).1[0]? = some ((hAll evs.length evs evs.length).1[0]'hp):=List.getElem?_eq_getElem _
  unfold parI
  rw [readN_root,h0]
  exact (hok.root _ h0).1
 ·intro k h1 h2
  obtain ⟨i,rfl⟩:∃ i,k = i + 1:=⟨k - 1,by omega⟩
  refine parI_of h2 ?_
  have hg:(readN evs st)[i + 1]? = some (readN evs st)[i + 1]:=List.getElem?_eq_getElem h2
  rw [readN_at] at hg
  exact (hok.par _ _ hg h1).1
end Go.Proofs.YtgjokdngbocehaaGreatDoor
namespace Go.Proofs.YtgjokdngbocehaaGreatDoor
open Go.RowKit
theorem infoVd15:(Tryz.prog.info? 87).map (fun i=>(i.zero,i.size,i.bytes)) = some (some (.agg #[.int .i64 0,.int .i64 0]),2,16):=by kernel_rfl
theorem VdAt.of15 {W:World} {B:Nat} {v:Value} {l:List (Int × Int)} (h:W.ownsRow B 87 2 v l.length (vdC l)):∃ a c,v = .slice a l.length c ∧ l.length ≤ c ∧ VdAt W a l.length l:=by
 obtain ⟨a,c,rfl,h1,h2,h3⟩:=own_slice h
 refine ⟨a,c,rfl,h1,rfl,fun i hi=>?_⟩
 cases a with
 | none=>have:=h2 rfl;omega
 | some ad =>
  obtain ⟨g,rfl,_⟩:=h3 ad rfl
  obtain ⟨g1,g2⟩:=vdC_at l i hi
  exact ⟨g,0,rfl,(h.lt g rfl).2,by rw [Nat.zero_add,h.cellAt _ (by omega)];exact g1,by rw [Nat.zero_add,h.cellAt _ (by omega)];exact g2⟩
theorem vdT_set (L:List Int) (n:Nat):vdT (L.set 0 0) n = vdT L n:=by
 unfold vdT
 congr 1
 funext i
 by_cases h:0 < i
 ·have e:(L.set 0 0).getD i 0 = L.getD i 0:=by rw [List.getD_eq_getElem?_getD,List.getElem?_set_ne (by omega),← List.getD_eq_getElem?_getD]
  rw [e]
 ·rw [if_neg (fun hh=>h hh.1),if_neg (fun hh=>h hh.1)]
set_option maxRecDepth 100000 in
set_option maxHeartbeats 8000000 in
theorem verd15_any {f:Nat} (a:Option Addr) (n c:Nat) (evs:List Ev) (st:BegS) (pa:Option Addr) (pc:Nat) (ss:List PS) (w:World) (hE:BegQ w a n evs) (hst:begAll beg0 evs = some st) (h4:n ≤ 400) (hp:SsAt f w pa ss) (hpl:ss.length ≤ 1048576) (hg:goodPB (goodXB f) ss = true) :
  Calls Tryz.prog 14 #[.slice a n c,.agg #[.slice pa ss.length pc]] w fun e w'=>∃ A cc,e = .returned (.slice A (vdT (pathT (exprT (readN evs st) f) (readN evs st) ss ss.length) (readN evs st).length).length cc) ∧ VdAt w' A (vdT (pathT (exprT (readN evs st) f) (readN evs st) ss ss.length) (readN evs st).length).length (vdT (pathT (exprT (readN evs st) f) (readN evs st) ss ss.length) (readN evs st).length) ∧ Below w.heap.size w w':=by
 obtain ⟨i0,hi,hz0,hz1,hz2⟩:=info_parts infoVd15
 obtain ⟨hlk,hlr⟩:=lk_of hst
 have hcap:((readN evs st).length:Int) ≤ 1000:=by
  have h1:=(beg_hok hst).len
  have h2:(readN evs st).length = (hAll evs.length evs evs.length).1.length:=List.length_modify _ _ _
  have h3:=hE.at'.1
  omega
 obtain ⟨q,hq⟩:∃ q,ss.length = q:=⟨_,rfl⟩
 obtain ⟨W0,hW0⟩:∃ W0,W0 = w.alloc (.cells #[.slice pa q pc] 25):=⟨_,rfl⟩
 have hb0:Below w.heap.size w W0:=by rw [hW0];exact (Below.refl _ _).alloc (Nat.le_refl _) _
 have hk0:W0.heap[w.heap.size]? = some (.cells #[.slice pa q pc] 25 (0,0)):=by rw [hW0];exact heap_alloc_new w _
 have hs0:W0.heap.size = w.heap.size + 1:=by rw [hW0];simp
 have HB0:=Lib.hid hb0
 have HOF:Hid (Calls Tryz.prog 33 #[.slice a n c] W0.drew fun e w'=>∃ an cn,e = .returned (.agg #[.slice an (rnAll beg0 [] evs).length cn,.bool (decide (evs ≠ [] ∧ st.opn = []))]) ∧ RbMem w' an evs (rnAll beg0 [] evs) ∧ Below W0.heap.size W0 w'):=Lib.hid (by
  have hd:Below W0.heap.size W0 W0.drew:=(Below.refl W0.heap.size W0).drew
  have:=of15_any a n c evs st W0.drew ((hE.below hb0).at'.below hd) hst hE.le hE.sm
  exact this.mono fun e w' ⟨an,cn,g1,g2,g3⟩=>⟨an,cn,g1,g2,hd.trans (g3.mono (Nat.le_refl _))⟩)
 have HEX:Hid (∀ W an cn,Below W0.heap.size W0 W → RbMem W an evs (rnAll beg0 [] evs) → Calls Tryz.prog 34 #[.agg #[.slice an (rnAll beg0 [] evs).length cn,.bool (decide (evs ≠ [] ∧ st.opn = []))],.agg #[.slice pa q pc]] W fun e w'=>∃ P,e = .returned (.slice (some ⟨P,0,none⟩) (readN evs st).length (readN evs st).length) ∧ TsAt w' (some ⟨P,0,none⟩) (readN evs st).length ((pathT (exprT (readN evs st) f) (readN evs st) ss q).set 0 0) ∧ Below W.heap.size W w'):=Lib.hid fun W an cn hW hm=>by
  have:=query15_any (cn:=cn) (expr15_all hlk hlr f) ss pa pc W (rd_of hst hm hE.sm hE.wt (by rw [← hE.at'.1];exact h4)) hlk (pars_of hst) hlr (SsAt.below hp (hb0.trans (hW.mono hb0.size))) hpl hg
  rw [hq] at this
  exact this
 have HKB:Hid (∀ W,Below W0.heap.size W0 W → W.cell? ⟨w.heap.size,0,none⟩ = some (.slice pa q pc)):=Lib.hid fun W hW=>by rw [cell_heap ((hW.block _ (by omega)).trans hk0)];rfl
 have HW0:=Lib.hid hW0
 have hVS:=vdT_set (pathT (exprT (readN evs st) f) (readN evs st) ss q) (readN evs st).length
 rw [hq,← hVS]
 obtain ⟨n',hn'⟩:∃ n',(readN evs st).length = n':=⟨_,rfl⟩
 rw [hn'] at hcap HEX
 rw [hn']
 have hx0:=HKB.out W0 (Below.refl _ _)
 generalize (pathT (exprT (readN evs st) f) (readN evs st) ss q).set 0 0 = L at *
 generalize (decide (evs ≠ [] ∧ st.opn = [])) = clo at *
 generalize rnAll beg0 [] evs = rs at *
 clear hW0 hb0 hk0 hs0 hE hst hp hg hlk hlr hn' hVS hq hpl
 go_enter Tryz.func14,Tryz.ntmps14
 go_wp2_with fail
 rw [← HW0.out]
 go_region_with (first | (go_at_call 33;(with_reducible refine HOF.out.mono ?_);rintro e w2 ⟨an,cn,rfl,hm,hb2⟩;have HB2:=Lib.hid hb2;have HX2:=Lib.hid (HEX.out w2 an cn hb2 hm);have hb2x:=HKB.out w2 hb2;clear hm hb2) | (go_at_call 34;(with_reducible refine HX2.out.mono ?_);rintro e w4 ⟨P,rfl,hT,hb3⟩;have HT:=Lib.hid hT;have HB4:=Lib.hid (HB0.out.trans ((HB2.out.trans (hb3.mono HB2.out.size)).mono HB0.out.size));clear hT hb3))
 all_goals
  go_wp2_with fail
  go_loopw [6,7] (fun ov iv wr=>∃ (k:Nat) (J:Int),iv = .int .i64 J ∧ J + 1 = (k:Int) ∧ 1 ≤ k ∧ (k ≤ n' ∨ k = 1) ∧ Hid (Below w4.heap.size w4 wr ∧ wr.ownsRow w4.heap.size 87 2 ov (vdT L k).length (vdC (vdT L k)))) (fun _ iv _=>n' - (intOf iv + 1).toNat)
  case atStart=>exact ⟨1,0,rfl,rfl,Nat.le_refl _,.inr rfl,Lib.hid ⟨Below.refl _ _,by rw [vdT_no L 0 (fun h=>by omega)];exact World.ownsRow_nil _ _ _ _⟩⟩
  case round =>
   obtain ⟨k,J,rfl,hJ,hk0,hk,HM⟩:=hrel
   have ewj:IntKind.i64.wrap (J + 1) = (k:Int):=by rw [IntWalk.i64_in _ (by omega)];omega
   by_cases hkn:k < n'
   ·obtain ⟨z1,l1⟩:=(HT.out.below HM.out.1).at0 k hkn
    have i1:(0:Int) ≤ (k:Int):=by omega
    have i2:(k:Int) < (n':Int):=by omega
    have HJ0:=Lib.hid hJ
    have hJe:J = (k:Int) - 1:=by omega
    clear hJ
    by_cases hv0:L.getD k 0 = 0
    ·have HX:Hid (vdT L (k + 1) = vdT L k):=Lib.hid (vdT_no L k (fun h=>h.2 hv0))
     rw [hv0] at z1
     clear hJe
     go_wp2_with fail
     go_roundw
     case rel=>exact ⟨k + 1,(k:Int),by first | rfl | go_num,by omega,by omega,by omega,Lib.hid (by rw [HX.out];exact HM.out)⟩
     case measure=>have:=HJ0.out;simp [intOf];omega
    ·have HX:Hid (vdT L (k + 1) = vdT L k ++ [(J,L.getD k 0)]):=Lib.hid (by rw [hJe];exact vdT_yes L k (by omega) hv0)
     have hlen:=vdT_le L k
     have tv:((L.getD k 0:Int) == 0) = false:=by simpa using hv0
     have tv2:((L.getD k 0:Int) != 0) = true:=by show (!(L.getD k 0 == 0)) = true;rw [tv];rfl
     have HOWN:=Lib.hid HM.out.2
     have hbs:=HM.out.1.size
     generalize L.getD k 0 = tv' at *
     clear hv0 hJe
     go_wp2_with (at_builtin;go_must ((refine wpList_app wr (by rfl) _ _ 35 (by rfl) w4.heap.size 87 i0 (.agg #[.int .i64 0,.int .i64 0]) 2 16 Tryz.underlying35 hi hz0 hz1 hz2 (by rfl) (by decide) u6 (vdT L k).length _ (by rfl) HOWN.out _ rfl 1 [.int .i64 J,.int .i64 tv'] (by rfl) (by rfl) (by intro u hu;simp only [List.mem_cons,List.not_mem_nil,or_false] at hu;rcases hu with rfl | rfl <;> rfl) (by omega) (by decide) hbs (fun vO' w7 hown7 hap7=>?_))))
     have HN7:Hid (Below w4.heap.size w4 w7 ∧ w7.ownsRow w4.heap.size 87 2 vO' (vdT L (k + 1)).length (vdC (vdT L (k + 1)))):=Lib.hid ⟨(HM.out.1.alloc hbs _).trans (hap7.below (by simp;omega) (fun q hq=>(HOWN.out.lt q hq).1)),by
      rw [HX.out,vdC_snoc,List.length_append];exact hown7⟩
     clear hown7 hap7
     go_wp2_with fail
     go_roundw
     case rel=>exact ⟨k + 1,(k:Int),by first | rfl | go_num,by omega,by omega,by omega,HN7⟩
     case measure=>have:=HJ0.out;simp [intOf];omega
   ·have hk2:vdT L k = vdT L n':=by
     rcases hk with h | h
     ·rw [show k = n' by omega]
     ·subst h
      by_cases h0:n' = 0
      ·rw [h0];exact vdT_no L 0 (fun h=>by omega)
      ·rw [show n' = 1 by omega]
    have HE:Hid (Below w.heap.size w wr ∧ wr.ownsRow w4.heap.size 87 2 u6 (vdT L n').length (vdC (vdT L n'))):=Lib.hid ⟨HB4.out.trans (HM.out.1.mono HB4.out.size),by rw [← hk2];exact HM.out.2⟩
    have i2:(n':Int) ≤ (k:Int):=by omega
    obtain ⟨A,cc,rfl,hcc,hvd⟩:=VdAt.of15 HE.out.2
    have HVD:=Lib.hid hvd
    have HE2:=Lib.hid HE.out.1
    clear HM hvd HE hk2 hJ
    go_wp2_with fail
    go_ret
    exact ⟨A,cc,rfl,HVD.out,HE2.out⟩
end Go.Proofs.YtgjokdngbocehaaGreatDoor
namespace Go.Proofs.YtgjokdngbocehaaGreatDoor
open Go.RowKit
section
variable {H:Type} {enc:TypeId × Value → H} {w:World} {base:Nat} {sp:Nat → Bool} {held:Bool}
theorem list_of {α:Type} (n:Nat) (P:Nat → α → Prop) (h:∀ i,i < n → ∃ x,P i x):∃ l:List α,l.length = n ∧ ∀ i,(hi:i < l.length) → P i l[i]:=by
 refine ⟨List.ofFn (n:=n) fun i=>Classical.choose (h i.1 i.2),by simp,fun i hi=>?_⟩
 have hi':i < n:=by simpa using hi
 rw [List.getElem_ofFn]
 exact Classical.choose_spec (h i hi')
theorem bulk_pos (d:DataW H):1 ≤ Rows.uptoBulk d:=by
 cases d with
 | lit l=>cases l <;> simp [Rows.uptoBulk]
 | _=>simp [Rows.uptoBulk]
theorem bulkAll_len (l:List (DataW H)):l.length ≤ Rows.uptoBulkAll l:=by
 induction l with
 | nil=>simp
 | cons d l ih=>have:=bulk_pos d;simp only [Rows.uptoBulkAll,List.length_cons];omega
theorem rows_open {α:Type} {P:World → α → List Value → Prop} {S E:TypeId} {k fuel:Nat} (hS:Tryz.prog.underlying S = some (.slice E)) (hE:Tryz.prog.cellsOf E = k) (hk:0 < k) {cs:List Value} {x:DataW H × List MemPlace}
  (h:DataW.trod enc Tryz.prog w base sp held fuel S cs = some x) (hel:∀ (m:Nat) (es:List Value) (y:DataW H × List MemPlace),DataW.trod enc Tryz.prog w base sp held m E es = some y → Rows.uptoBulk y.1 + 1 ≤ Rows.uptoBulk x.1 → ∃ z:α,P w z es) :
  ∃ a c,∃ l:List α,cs = [.slice a l.length c] ∧ l.length ≤ c ∧ l.length ≤ Rows.uptoBulk x.1 ∧ RowP P k w a l:=by
 obtain ⟨a,n,c,elems,rfl,hnc,hen,hor,hat⟩:=slice_read hS hE hk h
 have hle:∀ i,(hi:i < elems.length) → Rows.uptoBulk elems[i].1 + 1 ≤ Rows.uptoBulk x.1:=fun i hi=>by
  rcases hor with h0 | ⟨rest,h0⟩
  ·subst h0;simp at hi
  ·rw [h0]
   have:=bulk_le (l:=elems.map (·.1)) (i:=i) (d:=elems[i].1) (by rw [List.getElem?_map,List.getElem?_eq_getElem hi];rfl)
   simp only [Rows.uptoBulk];omega
 have hln:elems.length ≤ Rows.uptoBulk x.1:=by
  rcases hor with h0 | ⟨rest,h0⟩
  ·subst h0;simp
  ·rw [h0]
   have:=bulkAll_len (elems.map (·.1))
   rw [List.length_map] at this
   simp only [Rows.uptoBulk];omega
 obtain ⟨l,hl,hat2⟩:=list_of (α:=α) elems.length (fun i z=>∃ b o ecs,a = some ⟨b,o,none⟩ ∧ b < w.heap.size ∧ ecs.length = k ∧ (∀ j,j < k → w.cell? ⟨b,o + i * k + j,none⟩ = ecs[j]?) ∧ P w z ecs) (fun i hi=>by
  obtain ⟨b,o,m,ecs,h1,h2,h3,h4,h5⟩:=hat i hi
  obtain ⟨z,hz⟩:=hel m ecs _ h5 (hle i hi)
  exact ⟨z,b,o,ecs,h1,h2,h3,h4,hz⟩)
 subst hen
 refine ⟨a,c,l,by rw [hl],by omega,by omega,fun i hi=>?_⟩
 obtain ⟨b,o,ecs,h1,h2,h3,h4,h5⟩:=hat2 i hi
 exact ⟨b,o,ecs,h1,h2,h3,h4,h5⟩
theorem step_desc:∃ f0 f1 f2 f3,Tryz.prog.underlying 76 = some (.struct #[f0,f1,f2,f3]) ∧ (f0.type = 73 ∧ f1.type = 74 ∧ f2.type = 9 ∧ f3.type = 39) ∧ (f0.offset = 0 ∧ f1.offset = 1 ∧ f2.offset = 2 ∧ f3.offset = 3):=by
 refine ⟨_,_,_,_,Tryz.underlying76,⟨rfl,rfl,rfl,rfl⟩,⟨rfl,rfl,rfl,rfl⟩⟩
theorem expr_desc:∃ f0 f1 f2 f3 f4 f5 f6,Tryz.prog.underlying 42 = some (.struct #[f0,f1,f2,f3,f4,f5,f6]) ∧ (f0.type = 38 ∧ f1.type = 39 ∧ f2.type = 25 ∧ f3.type = 9 ∧ f4.type = 40 ∧ f5.type = 9 ∧ f6.type = 3) ∧
  (f0.offset = 0 ∧ f1.offset = 1 ∧ f2.offset = 2 ∧ f3.offset = 3 ∧ f4.offset = 4 ∧ f5.offset = 5 ∧ f6.offset = 6):=by
 refine ⟨_,_,_,_,_,_,_,Tryz.underlying42,⟨rfl,rfl,rfl,rfl,rfl,rfl,rfl⟩,⟨rfl,rfl,rfl,rfl,rfl,rfl,rfl⟩⟩
theorem path_desc:∃ f0,Tryz.prog.underlying 25 = some (.struct #[f0]) ∧ f0.type = 23 ∧ f0.offset = 0:=by
 refine ⟨_,Tryz.underlying25,rfl,rfl⟩
theorem cellsAxis1:Tryz.prog.cellsOf 73 = 1:=by kernel_rfl
theorem cellsTest1:Tryz.prog.cellsOf 74 = 1:=by kernel_rfl
theorem cellsOp1:Tryz.prog.cellsOf 38 = 1:=by kernel_rfl
theorem cellsCmp1:Tryz.prog.cellsOf 40 = 1:=by kernel_rfl
theorem cellsExprs1:Tryz.prog.cellsOf 39 = 1:=by kernel_rfl
theorem cellsSteps1:Tryz.prog.cellsOf 23 = 1:=by kernel_rfl
theorem cellsPath1:Tryz.prog.cellsOf 25 = 1:=by kernel_rfl
theorem cellsStep:Tryz.prog.cellsOf 76 = 4:=by kernel_rfl
theorem cellsExpr:Tryz.prog.cellsOf 42 = 7:=by kernel_rfl
theorem w64_of {n:Int} (h:(Lit.int .i64 n).wf = true):W64 n:=by
 simp [Lit.wf,IntKind.min,IntKind.max,IntKind.signed,IntKind.bits] at h
 unfold W64
 omega
set_option maxRecDepth 100000 in
set_option maxHeartbeats 1000000 in
theorem step_open {K fuel:Nat} (ih:∀ (m:Nat) (es:List Value) (y:DataW H × List MemPlace),DataW.trod enc Tryz.prog w base sp held m 42 es = some y → Rows.uptoBulk y.1 ≤ K → ∃ z,XAt K w z es) {cs:List Value} {x:DataW H × List MemPlace}
  (h:DataW.trod enc Tryz.prog w base sp held fuel 76 cs = some x) (hK:Rows.uptoBulk x.1 ≤ K + 1) (hM:Rows.uptoBulk x.1 ≤ 1048576):∃ s,StepAt (XAt K) w s cs:=by
 obtain ⟨f0,f1,f2,f3,hu,⟨t0,t1,t2,t3⟩,⟨o0,o1,o2,o3⟩⟩:=step_desc
 obtain ⟨xs,m,_,hx,hl,hxl,hat⟩:=DataW.trod_struct hu h
 have h0:=hat 0 f0 rfl
 have h1:=hat 1 f1 rfl
 have h2:=hat 2 f2 rfl
 have h3:=hat 3 f3 rfl
 clear hat
 rw [t0,o0,cellsAxis1] at h0
 rw [t1,o1,cellsTest1] at h1
 rw [t2,o2,cellsStr1] at h2
 rw [t3,o3,cellsExprs1] at h3
 rw [cellsStep] at hl
 have hxl4:xs.length = 4:=hxl
 match xs,hxl4 with
 | [p0,p1,p2,p3],_ =>
  match cs,hl with
  | [c0,c1,c2,c3],_ =>
   rw [hx] at hK hM
   simp only [List.map_cons,List.map_nil,Rows.uptoBulk,Rows.uptoBulkAll] at hK hM
   obtain ⟨n0,e0,y0,w0⟩:=DataW.trod_int Tryz.underlying73 h0
   obtain ⟨n1,e1,y1,w1⟩:=DataW.trod_int Tryz.underlying74 h1
   obtain ⟨s2,e2,y2,_⟩:=DataW.trod_string Tryz.underlying9 h2
   have hp3:=h3
   simp only [List.getElem?_cons_succ,List.getElem?_cons_zero] at hp3
   obtain ⟨a,c,l,e3,hlc,hlb,hrow⟩:=rows_open (α:=PX) (P:=XAt K) Tryz.underlying39 cellsExpr (by decide) hp3 (fun m es y hy hb=>ih m es y hy (by omega))
   simp at e0 e1 e2 e3 y0 y1 y2
   subst e0 e1 e2 e3 y0 y1 y2
   simp only [Rows.uptoBulk] at hK hM
   refine ⟨.mk n0 n1 s2.data.toList l,a,c,by simp [PS.axis,PS.test,PS.name,PS.wher,strL_of],hlc,w64_of w0,w64_of w1,?_,?_,hrow⟩
   ·show s2.data.toList.length ≤ _;omega
   ·show l.length ≤ _;omega
theorem path_open {K fuel:Nat} (ih:∀ (m:Nat) (es:List Value) (y:DataW H × List MemPlace),DataW.trod enc Tryz.prog w base sp held m 42 es = some y → Rows.uptoBulk y.1 ≤ K → ∃ z,XAt K w z es) {cs:List Value} {x:DataW H × List MemPlace}
  (h:DataW.trod enc Tryz.prog w base sp held fuel 25 cs = some x) (hK:Rows.uptoBulk x.1 ≤ K + 2) (hM:Rows.uptoBulk x.1 ≤ 1048576):∃ a c,∃ l:List PS,cs = [.slice a l.length c] ∧ l.length ≤ c ∧ l.length ≤ 1048576 ∧ SsAt K w a l:=by
 obtain ⟨f0,hu,t0,o0⟩:=path_desc
 obtain ⟨xs,m,_,hx,hl,hxl,hat⟩:=DataW.trod_struct hu h
 have h0:=hat 0 f0 rfl
 clear hat
 rw [t0,o0,cellsSteps1] at h0
 rw [cellsPath1] at hl
 have hxl1:xs.length = 1:=hxl
 match xs,hxl1 with
 | [p0],_ =>
  match cs,hl with
  | [c0],_ =>
   rw [hx] at hK hM
   simp only [List.map_cons,List.map_nil,Rows.uptoBulk,Rows.uptoBulkAll] at hK hM
   have hp0:=h0
   simp only [List.getElem?_cons_zero,List.drop_zero,List.take_succ_cons,List.take_zero] at hp0
   obtain ⟨a,c,l,e0,hlc,hlb,hrow⟩:=rows_open (α:=PS) (P:=StepAt (XAt K)) Tryz.underlying23 cellsStep (by decide) hp0 (fun m es y hy hb=>step_open ih hy (by omega) (by omega))
   exact ⟨a,c,l,e0,hlc,by omega,hrow⟩
set_option maxRecDepth 100000 in
set_option maxHeartbeats 1000000 in
theorem expr_open:∀ (K fuel:Nat) (cs:List Value) (x:DataW H × List MemPlace),DataW.trod enc Tryz.prog w base sp held fuel 42 cs = some x → Rows.uptoBulk x.1 ≤ K → K ≤ 1048576 → ∃ z,XAt K w z cs:=by
 intro K
 induction K with
 | zero=>intro fuel cs x _ h0 _;have:=bulk_pos x.1;omega
 | succ K ih =>
  intro fuel cs x h hK hM
  obtain ⟨f0,f1,f2,f3,f4,f5,f6,hu,⟨t0,t1,t2,t3,t4,t5,t6⟩,⟨o0,o1,o2,o3,o4,o5,o6⟩⟩:=expr_desc
  obtain ⟨xs,m,_,hx,hl,hxl,hat⟩:=DataW.trod_struct hu h
  have h0:=hat 0 f0 rfl
  have h1:=hat 1 f1 rfl
  have h2:=hat 2 f2 rfl
  have h3:=hat 3 f3 rfl
  have h4:=hat 4 f4 rfl
  have h5:=hat 5 f5 rfl
  have h6:=hat 6 f6 rfl
  clear hat
  rw [t0,o0,cellsOp1] at h0
  rw [t1,o1,cellsExprs1] at h1
  rw [t2,o2,cellsPath1] at h2
  rw [t3,o3,cellsStr1] at h3
  rw [t4,o4,cellsCmp1] at h4
  rw [t5,o5,cellsStr1] at h5
  rw [t6,o6,cellsInt1] at h6
  rw [cellsExpr] at hl
  have hxl7:xs.length = 7:=hxl
  match xs,hxl7 with
  | [p0,p1,p2,p3,p4,p5,p6],_ =>
   match cs,hl with
   | [c0,c1,c2,c3,c4,c5,c6],_ =>
    rw [hx] at hK
    simp only [List.map_cons,List.map_nil,Rows.uptoBulk,Rows.uptoBulkAll] at hK
    have ih':∀ (m:Nat) (es:List Value) (y:DataW H × List MemPlace),DataW.trod enc Tryz.prog w base sp held m 42 es = some y → Rows.uptoBulk y.1 ≤ K → ∃ z,XAt K w z es:=fun m es y hy hb=>ih m es y hy hb (by omega)
    obtain ⟨n0,e0,y0,w0⟩:=DataW.trod_int Tryz.underlying38 h0
    have hp1:=h1
    have hp2:=h2
    simp only [List.getElem?_cons_succ,List.getElem?_cons_zero] at hp1 hp2
    obtain ⟨a,c,l,e1,hlc,hlb,hrow⟩:=rows_open (α:=PX) (P:=XAt K) Tryz.underlying39 cellsExpr (by decide) hp1 (fun m es y hy hb=>ih' m es y hy (by omega))
    obtain ⟨p,d,l2,e2,hlc2,hlb2,hrow2⟩:=path_open ih' hp2 (by omega) (by omega)
    obtain ⟨s3,e3,y3,_⟩:=DataW.trod_string Tryz.underlying9 h3
    obtain ⟨n4,e4,y4,w4⟩:=DataW.trod_int Tryz.underlying40 h4
    obtain ⟨s5,e5,y5,_⟩:=DataW.trod_string Tryz.underlying9 h5
    obtain ⟨n6,e6,y6,w6⟩:=DataW.trod_int Tryz.underlying3 h6
    simp at e0 e1 e2 e3 e4 e5 e6 y0 y3 y4 y5 y6
    subst e0 e1 e2 e3 e4 e5 e6 y0 y3 y4 y5 y6
    simp only [Rows.uptoBulk] at hK
    refine ⟨.mk n0 l l2 s3.data.toList n4 s5.data.toList n6,a,c,p,d,by simp [PX.op,PX.args,PX.path,PX.attr,PX.cmp,PX.text,PX.num,strL_of],hlc,hlc2,w64_of w0,w64_of w4,w64_of w6,?_,?_,?_,?_,hrow,hrow2⟩
    ·show s3.data.toList.length ≤ _;omega
    ·show s5.data.toList.length ≤ _;omega
    ·show l.length ≤ _;omega
    ·show l2.length ≤ _;omega
end
end Go.Proofs.YtgjokdngbocehaaGreatDoor
namespace Go.Proofs.YtgjokdngbocehaaGreatDoor
open Go.ChangeShapes Go.WideShapes Go.ChangeAt Go.RowKit
theorem own':ownKnob Tryz.prog.godebug = none:=by kernel_rfl
theorem laidOut:laidOutB Tryz.prog = true:=by kernel_rfl
def flat' (l:List (Int × Int)):Array Value:=(l.flatMap fun p=>[.int .i32 p.1,.int .i32 p.2]).toArray
theorem laid_same:(Rows.laid_gimlet_chars_ranges:DataW Unit) = rngData:=by kernel_rfl
end Go.Proofs.YtgjokdngbocehaaGreatDoor
namespace Go.Proofs.YtgjokdngbocehaaGreatDoor
open Go.ChangeShapes Go.WideShapes Go.ChangeAt Go.RowKit
noncomputable def laidWorld3 (os:Os):World :=
 let N:=(World.settled Tryz.prog os).heap.size
 let w0:=World.holding Tryz.prog os ⟨#[.cells (flat' (rng 0)) 200,.cells (flat' (rng 1)) 200,.cells (flat' (rng 2)) 200,.cells (flat' (rng 3)) 200,.cells (flat' (rng 4)) 200,.cells (flat' (rng 5)) 200],#[],[]⟩
 { w0 with heap:=((w0.heap.modify 2 fun
   | .cells _ t frozen=>.cells #[.slice (some ⟨N,0,none⟩) 5 5,.slice (some ⟨N + 1,0,none⟩) 3 3,.slice (some ⟨N + 2,0,none⟩) 15 15,.slice (some ⟨N + 3,0,none⟩) 18 18,.slice (some ⟨N + 4,0,none⟩) 1 1,.slice (some ⟨N + 5,0,none⟩) 3 3] t frozen
   | o=>o).modify 0 fun
   | .cells _ t frozen=>.cells ((List.range 256).map fun b=>Value.int .u8 (Lib.firstT b)).toArray t frozen
   | o=>o).modify 1 fun
   | .cells _ t frozen=>.cells ((List.range 16).flatMap fun i=>[Value.int .u8 (Lib.accLo i),Value.int .u8 (Lib.accHi i)]).toArray t frozen
   | o=>o }
set_option maxRecDepth 100000 in
theorem laid_met3 (os:Os) (args:Array Value):laidMet Tryz.prog [("unicode/utf8.acceptRanges",Rows.laid_unicode_utf8_acceptRanges),("gimlet/chars.ranges",Rows.laid_gimlet_chars_ranges),("unicode/utf8.first",Rows.laid_unicode_utf8_first)] ((laidWorld3 os).forCall (fun _ _=>0) ⟨#[],args,[]⟩).memory :=
 laidMet_of_run' 8 (by kernel_rfl) (by kernel_rfl)
theorem acc_same:(Rows.laid_unicode_utf8_acceptRanges:DataW Unit) = Lib.acceptData:=by kernel_rfl
theorem first_same:Rows.laid_unicode_utf8_first = Lib.firstData:=Pinned.utf8First_eq
theorem u8extra:U8Extra Tryz.prog validRen:=⟨by kernel_rfl,by kernel_rfl,by kernel_rfl,by kernel_rfl,by kernel_rfl,by kernel_rfl,by kernel_rfl⟩
theorem at_laid3 {W:World} (hL:laidMet Tryz.prog [("unicode/utf8.acceptRanges",Rows.laid_unicode_utf8_acceptRanges),("gimlet/chars.ranges",Rows.laid_gimlet_chars_ranges),("unicode/utf8.first",Rows.laid_unicode_utf8_first)] W):RangesAt W 2 ∧ Lib.Utf8Tabs 0 1 W:=by
 refine ⟨?_,?_⟩
 ·have h:=hL.tail
  rw [laid_same] at h
  exact ranges_of_laid h
 ·rw [acc_same,first_same] at hL
  exact utf8Tabs_of_readsT u8types u8extra (Lib.laidMet.reads hL (.tail _ (.tail _ (.head _)))) (Lib.laidMet.reads hL (.head _))
end Go.Proofs.YtgjokdngbocehaaGreatDoor
