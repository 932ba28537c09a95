/-
  (asked).all, where (asked).holds is known.
-/
import Derived.Test.YtgjokdngbocehaaGreatDoorHsA
import Derived.Test.YtgjokdngbocehaaGreatDoorHsC
import Derived.Test.YtgjokdngbocehaaGreatDoorHsD
import Derived.Test.YtgjokdngbocehaaGreatDoorHsE
import Derived.Test.YtgjokdngbocehaaGreatDoorHsF
import Derived.Test.YtgjokdngbocehaaGreatDoorHsH
import Derived.Test.YtgjokdngbocehaaGreatDoorHsL
import Derived.Test.YtgjokdngbocehaaGreatDoorHsM
import Derived.Test.YtgjokdngbocehaaGreatDoorHsN
import Derived.Test.YtgjokdngbocehaaGreatDoorHsO
import Derived.Test.YtgjokdngbocehaaGreatDoorHsV
import Derived.Test.YtgjokdngbocehaaGreatDoorHsW
import Derived.Test.YtgjokdngbocehaaGreatDoorHsZH
import Derived.Test.YtgjokdngbocehaaGreatDoorHsZP
import Derived.Test.YtgjokdngbocehaaGreatDoorHsZQ
namespace Go.Proofs.YtgjokdngbocehaaGreatDoor
open Go.RowKit
def HoldX (tb:Nat) (evs:List Ev) (f:Nat):Prop:=∀ (v:Int) (x:PX) (cs:List Value) (W:World),-1 ≤ v → v < (nodesB evs).length → TQ W tb evs → XAt f W x cs → goodXB f x = true →
 Calls Tryz.prog 138 #[.agg #[.pointer (some ⟨tb,0,none⟩)],.int .i64 v,.agg cs.toArray] W fun e w'=>e = .returned (.bool (holdP (treePT evs) f v x)) ∧ Below W.heap.size W w'
set_option maxRecDepth 100000 in
set_option maxHeartbeats 4000000 in
theorem all_of {tb:Nat} {evs:List Ev} {f:Nat} (HX:HoldX tb evs f) (v:Int) (l:List PX) (la:Option Addr) (lc:Nat) (w:World) (hv1:-1 ≤ v) (hv2:v < (nodesB evs).length) (hq:TQ w tb evs) (hx:XsAt f w la l) (hn:l.length ≤ 1048576) (hg:l.all (goodXB f) = true) :
  Calls Tryz.prog 109 #[.agg #[.pointer (some ⟨tb,0,none⟩)],.int .i64 v,.slice la l.length lc] w fun e w'=>e = .returned (.bool (l.all (holdP (treePT evs) f v))) ∧ Below w.heap.size w w':=by
 have HROW:=Lib.hid hx
 have HG:Hid (∀ x ∈ l,goodXB f x = true):=Lib.hid (List.all_eq_true.1 hg)
 have HCA:Hid (∀ (x:PX) (cs:List Value) (W:World),x ∈ l → Below w.heap.size w W → XAt f W x cs → Calls Tryz.prog 138 #[.agg #[.pointer (some ⟨tb,0,none⟩)],.int .i64 v,.agg cs.toArray] W fun e w'=>e = .returned (.bool (holdP (treePT evs) f v x)) ∧ Below W.heap.size W w'):=Lib.hid fun x cs W hxl hW hxa =>
  HX v x cs W hv1 hv2 (hq.below hW) hxa (HG.out x hxl)
 have HB0:Hid (Below w.heap.size w (w.alloc (.cells #[.pointer (some ⟨tb,0,none⟩)] 153))):=Lib.hid ((Below.refl _ _).alloc (Nat.le_refl _) _)
 have HCL:Hid (∀ W,Below (w.heap.size + 1) (w.alloc (.cells #[.pointer (some ⟨tb,0,none⟩)] 153)) W → W.cell? ⟨w.heap.size,0,none⟩ = some (.pointer (some ⟨tb,0,none⟩))):=Lib.hid fun W hW=>by
  refine (hW.cell (p:=⟨w.heap.size,0,none⟩) (Nat.lt_succ_self _)).trans ?_
  rw [cell_heap (heap_alloc_new w _)];rfl
 have HBB:Hid (Below (w.heap.size + 1) (w.alloc (.cells #[.pointer (some ⟨tb,0,none⟩)] 153)) (w.alloc (.cells #[.pointer (some ⟨tb,0,none⟩)] 153))):=Lib.hid (Below.refl _ _)
 have HSZ:Hid (w.heap.size + 1 ≤ (w.alloc (.cells #[.pointer (some ⟨tb,0,none⟩)] 153)).heap.size):=Lib.hid (by simp)
 obtain ⟨R,hR⟩:∃ R,l.all (holdP (treePT evs) f v) = R:=⟨_,rfl⟩
 rw [hR]
 have HT:Hid ((∀ x ∈ l,holdP (treePT evs) f v x = true) → true = R):=Lib.hid fun h=>by rw [← hR];exact (List.all_eq_true.2 h).symm
 have HF:Hid (∀ x ∈ l,holdP (treePT evs) f v x = false → false = R):=Lib.hid fun x hxl hf=>by
  rw [← hR]
  cases hall:l.all (holdP (treePT evs) f v) with
  | false=>rfl
  | true=>rw [List.all_eq_true.1 hall x hxl] at hf;cases hf
 clear hR hx hg hq
 generalize hq:l.length = q at *
 have HQQ:=Lib.hid hq
 clear hq
 go_enter Tryz.func109,Tryz.ntmps109
 go_wp2_with fail
 generalize w.alloc (.cells #[.pointer (some ⟨tb,0,none⟩)] 153) = w0 at *
 go_loopw [11] (fun jv wr=>∃ j:Nat,jv = .int .i64 j ∧ j ≤ q ∧ Hid ((∀ i (hi:i < l.length),i < j → holdP (treePT evs) f v l[i] = true) ∧ Below w.heap.size w wr ∧ Below (w.heap.size + 1) w0 wr ∧ w.heap.size + 1 ≤ wr.heap.size)) (fun jv _=>q - (intOf jv).toNat)
 case atStart=>exact ⟨0,rfl,Nat.zero_le _,Lib.hid ⟨fun _ _ h=>absurd h (Nat.not_lt_zero _),HB0.out,HBB.out,HSZ.out⟩⟩
 case round =>
  obtain ⟨j,rfl,hjq,HJ⟩:=hrel
  obtain ⟨w13,rfl⟩:∃ w13,w13 = wr:=⟨_,rfl⟩
  by_cases hjl:j < q
  ·have hjw:j < l.length:=by rw [HQQ.out];exact hjl
   obtain ⟨b2,o2,ya,yc,yp,yd,rfl,hb2,hx,hcs⟩:=HROW.out.get' j hjw
   obtain ⟨x0,x1,x2,x3,x4,x5,x6⟩:=hcs w13 HJ.out.2.1
   have HMEM:Hid (l[j] ∈ l):=Lib.hid (List.getElem_mem hjw)
   have HNX:Hid (holdP (treePT evs) f v l[j] = true → ∀ i (hi:i < l.length),i < j + 1 → holdP (treePT evs) f v l[i] = true):=Lib.hid fun h2 i hi hij=>by
    rcases Nat.lt_or_ge i j with h | h
    ·exact HJ.out.1 i hi h
    ·have:i = j:=by omega
     subst this;exact h2
   have HDX:Hid (∀ W,Below w.heap.size w W → Calls Tryz.prog 138 #[.agg #[.pointer (some ⟨tb,0,none⟩)],.int .i64 v,.agg (exprC l[j] ya yc yp yd).toArray] W fun e w'=>e = .returned (.bool (holdP (treePT evs) f v l[j])) ∧ Below W.heap.size W w'):=Lib.hid fun W hW =>
    HCA.out l[j] _ W (List.getElem_mem hjw) hW (XAt.turn hW (Nat.le_refl _) hx)
   clear hcs hx hb2
   generalize l[j] = y at *
   unfold exprC at HDX
   generalize hhv:holdP (treePT evs) f v y = hb at *
   have i3:(0:Int) ≤ (j:Int):=by omega
   have i4:(j:Int) < (q:Int):=by omega
   have ewj:IntKind.i64.wrap ((j:Int) + 1) = (j:Int) + 1:=IntWalk.i64_in _ (by omega)
   have HB14:Hid (∀ o,Below w.heap.size w (w13.alloc o) ∧ Below (w.heap.size + 1) w0 (w13.alloc o) ∧ w.heap.size + 1 ≤ (w13.alloc o).heap.size):=Lib.hid fun o=>⟨HJ.out.2.1.alloc HJ.out.2.1.size _,HJ.out.2.2.1.alloc HJ.out.2.2.2 _,by have:=HJ.out.2.2.2;simp;omega⟩
   have c3:=HCL.out _ (HB14.out (.cells #[.int .i64 y.op,.slice ya y.args.length yc,.slice yp y.path.length yd,.string (strL y.attr),.int .i64 y.cmp,.string (strL y.text),.int .i64 y.num] 42)).2.1
   have HHV:=Lib.hid hhv
   clear hhv
   have HB15:=Lib.hid (HB14.out (.cells #[.int .i64 y.op,.slice ya y.args.length yc,.slice yp y.path.length yd,.string (strL y.attr),.int .i64 y.cmp,.string (strL y.text),.int .i64 y.num] 42))
   clear HB14
   go_wp2_with fail
   generalize w13.alloc (.cells #[.int .i64 y.op,.slice ya y.args.length yc,.slice yp y.path.length yd,.string (strL y.attr),.int .i64 y.cmp,.string (strL y.text),.int .i64 y.num] 42) = w14 at *
   (with_reducible refine (HDX.out _ HB15.out.1).mono ?_)
   rintro e w15 ⟨rfl,hb15⟩
   have HB16:Hid (Below w.heap.size w w15 ∧ Below (w.heap.size + 1) w0 w15 ∧ w.heap.size + 1 ≤ w15.heap.size):=Lib.hid ⟨HB15.out.1.trans (hb15.mono HB15.out.1.size),HB15.out.2.1.trans (hb15.mono HB15.out.2.2),Nat.le_trans HB15.out.2.2 hb15.size⟩
   clear hb15
   cases hb with
   | true =>
    have HN:=Lib.hid (HNX.out rfl)
    go_wp2_with fail
    go_roundw
    case rel=>exact ⟨j + 1,by go_num,by omega,Lib.hid ⟨HN.out,HB16.out⟩⟩
    case measure=>simp [intOf];omega
   | false =>
    have HFF:=Lib.hid (HF.out y HMEM.out HHV.out)
    go_wp2_with fail
    go_ret
    exact ⟨ret_bool HFF.out,HB16.out.1⟩
  ·have i4:(q:Int) ≤ (j:Int):=by omega
   have HTT:Hid (true = R):=Lib.hid (HT.out fun x hx=>by
    obtain ⟨i,hi,rfl⟩:=List.getElem_of_mem hx
    exact HJ.out.1 i hi (by have:=HQQ.out;omega))
   go_wp2_with fail
   go_ret
   exact ⟨ret_bool HTT.out,HJ.out.2.1⟩
end Go.Proofs.YtgjokdngbocehaaGreatDoor
namespace Go.Proofs.YtgjokdngbocehaaGreatDoor
open Go.RowKit
theorem holdP_succ (T:PT) (f:Nat) (v:Int) (x:PX):holdP T (f + 1) v x = (if x.op = 0 then x.args.all (holdP T f v) else if x.op = 1 then x.args.any (holdP T f v) else if x.op = 2 then !((x.args.head?.map (holdP T f v)).getD false) else someP T (stepsP (holdP T f) T (oneP T.N v) x.path) x):=rfl
set_option maxRecDepth 100000 in
set_option maxHeartbeats 4000000 in
theorem holdsAnd_any {tb:Nat} {evs:List Ev} {f:Nat} (HX:HoldX tb evs f) (v:Int) (x:PX) (cs:List Value) (w:World) (hv1:-1 ≤ v) (hv2:v < (nodesB evs).length) (hq:TQ w tb evs) (h:XAt (f + 1) w x cs) (hg:goodXB (f + 1) x = true) (hop:x.op = 0) :
  Calls Tryz.prog 138 #[.agg #[.pointer (some ⟨tb,0,none⟩)],.int .i64 v,.agg cs.toArray] w fun e w'=>e = .returned (.bool (holdP (treePT evs) (f + 1) v x)) ∧ Below w.heap.size w w':=by
 obtain ⟨aa,ac,pa,pc,rfl,hal,hpl,_,_,_,hatl,htxl,hargl,hpathl,hargs,hpath⟩:=h
 obtain ⟨_,hga⟩:=goodXB_args hg (by rw [hop];decide)
 have hb0:=((Below.refl w.heap.size w).alloc (Nat.le_refl _) (.cells #[.pointer (some ⟨tb,0,none⟩)] 153)).alloc (by simp) (.cells (exprC x aa ac pa pc).toArray 42)
 have HB0:=Lib.hid hb0
 have HAL:=Lib.hid (all_of HX v x.args aa ac _ hv1 hv2 (hq.below hb0) (XsAt.below hargs hb0) hargl (List.all_eq_true.2 hga))
 rw [holdP_succ,if_pos hop]
 generalize x.args.all (holdP (treePT evs) f v) = R at *
 clear hb0 hargs hpath hq hg hga hatl htxl
 unfold exprC at *
 rw [hop] at *
 clear hop
 generalize x.args.length = n at *
 generalize x.path.length = m at *
 go_enter Tryz.func138,Tryz.ntmps138
 go_wp2_with fail
 (with_reducible refine HAL.out.mono ?_)
 rintro e w2 ⟨rfl,hb2⟩
 go_wp2_with fail
 go_ret
 exact ⟨rfl,HB0.out.trans (hb2.mono HB0.out.size)⟩
set_option maxRecDepth 100000 in
set_option maxHeartbeats 4000000 in
theorem holdsNot_any {tb:Nat} {evs:List Ev} {f:Nat} (HX:HoldX tb evs f) (v:Int) (x:PX) (cs:List Value) (w:World) (hv1:-1 ≤ v) (hv2:v < (nodesB evs).length) (hq:TQ w tb evs) (h:XAt (f + 1) w x cs) (hg:goodXB (f + 1) x = true) (hop:x.op = 2) :
  Calls Tryz.prog 138 #[.agg #[.pointer (some ⟨tb,0,none⟩)],.int .i64 v,.agg cs.toArray] w fun e w'=>e = .returned (.bool (holdP (treePT evs) (f + 1) v x)) ∧ Below w.heap.size w w':=by
 obtain ⟨aa,ac,pa,pc,rfl,hal,hpl,_,_,_,hatl,htxl,hargl,hpathl,hargs,hpath⟩:=h
 obtain ⟨ho,hga⟩:=goodXB_args hg (by rw [hop];decide)
 have hb0:=((Below.refl w.heap.size w).alloc (Nat.le_refl _) (.cells #[.pointer (some ⟨tb,0,none⟩)] 153)).alloc (by simp) (.cells (exprC x aa ac pa pc).toArray 42)
 have HB0:=Lib.hid hb0
 have hl1:x.args.length = 1:=by omega
 obtain ⟨y,hy⟩:∃ y,x.args = [y]:=List.length_eq_one_iff.1 hl1
 have hR:holdP (treePT evs) (f + 1) v x = !holdP (treePT evs) f v y:=by
  rw [holdP_succ,if_neg (by rw [hop];decide),if_neg (by rw [hop];decide),if_pos hop,hy];rfl
 rw [hR]
 have hx0:XsAt f w aa [y]:=hy ▸ hargs
 obtain ⟨b,o,ya,yc,yp,yd,rfl,hb,hyx,hcs⟩:=hx0.get' 0 (by simp)
 obtain ⟨k0,k1,k2,k3,k4,k5,k6⟩:=hcs _ hb0
 simp only [List.getElem_cons_zero,Nat.zero_mul,Nat.add_zero] at k0 k1 k2 k3 k4 k5 k6
 have HDX:Hid (∀ W,Below w.heap.size w W → Calls Tryz.prog 138 #[.agg #[.pointer (some ⟨tb,0,none⟩)],.int .i64 v,.agg (exprC y ya yc yp yd).toArray] W fun e w'=>e = .returned (.bool (holdP (treePT evs) f v y)) ∧ Below W.heap.size W w'):=Lib.hid fun W hW =>
  HX v y _ W hv1 hv2 (hq.below hW) (XAt.turn hW (Nat.le_refl _) hyx) (hga y (by rw [hy];exact List.mem_cons_self))
 have HBD:Hid (∀ W,(∃ k,W = ((w.alloc (.cells #[.pointer (some ⟨tb,0,none⟩)] 153)).alloc (.cells (exprC x (some ⟨b,o,none⟩) ac pa pc).toArray 42)).drewN k) → Below w.heap.size w W):=Lib.hid fun W ⟨k,hk⟩=>by rw [hk];exact Below.drewN hb0 k
 clear hb0 hargs hpath hR hatl htxl hg hga ho hcs hyx hx0 hb hy hq
 unfold exprC at *
 rw [hop,hl1] at *
 clear hop hl1
 generalize holdP (treePT evs) f v y = R at *
 generalize x.path.length = m at *
 generalize strL x.attr = at3 at *
 generalize x.cmp = cm at *
 generalize strL x.text = tx at *
 generalize x.num = nu at *
 go_enter Tryz.func138,Tryz.ntmps138
 go_wp2_with fail
 go_region_with (first | (go_at_call 138;(with_reducible refine (HDX.out _ ?_).mono ?_);exact HBD.out _ ⟨1,rfl⟩;rintro e w2 ⟨rfl,hb2⟩))
 all_goals
  go_wp2_with fail
  go_ret
  exact ⟨rfl,(HBD.out _ ⟨1,rfl⟩).trans (hb2.mono (HBD.out _ ⟨1,rfl⟩).size)⟩
end Go.Proofs.YtgjokdngbocehaaGreatDoor
namespace Go.Proofs.YtgjokdngbocehaaGreatDoor
open Go.RowKit
def StepX (tb:Nat) (evs:List Ev) (f:Nat):Prop:=∀ (g0 n c:Nat) (a:Option Addr) (fr:List Bool) (ss:List PS) (w:World),TQ w tb evs → n = (nodesB evs).length + 1 → fr.length = n → RowB w g0 fr → SsAt f w a ss → ss.length ≤ 1048576 → (∀ s ∈ ss,s.wher.all (goodXB f) = true) →
 Calls Tryz.prog 82 #[.agg #[.pointer (some ⟨tb,0,none⟩)],.slice (some ⟨g0,0,none⟩) n n,.slice a ss.length c] w fun e w'=>∃ g',e = .returned (.slice (some ⟨g',0,none⟩) n n) ∧ RowB w' g' (stepsP (holdP (treePT evs) f) (treePT evs) fr ss) ∧ Below w.heap.size w w'
theorem oneP_set (N:Nat) (v:Int) (h1:-1 ≤ v):oneP N v = (List.replicate (N + 1) false).set (v + 1).toNat true:=by
 refine List.ext_getElem? fun k=>?_
 unfold oneP
 rw [List.getElem?_map,List.getElem?_set,List.length_replicate,List.getElem?_replicate]
 rcases Nat.lt_or_ge k (N + 1) with hk | hk
 ·rw [List.getElem?_range hk]
  by_cases e:(v + 1).toNat = k
  ·rw [if_pos e,if_pos (by omega)]
   have:(k:Int) = v + 1:=by omega
   simp [this]
  ·rw [if_neg e,if_pos hk]
   have:¬ (k:Int) = v + 1:=by omega
   simp [this]
 ·rw [List.getElem?_eq_none (by simpa using hk)]
  by_cases e:(v + 1).toNat = k
  ·rw [if_pos e,if_neg (by omega)];rfl
  ·rw [if_neg e,if_neg (by omega)];rfl
theorem made_row {n:Nat} {w w':World} {base:Nat} (hown:w'.ownsRow base 4 1 (.slice (some ⟨w.heap.size,0,none⟩) n n) n (madeCells (Value.bool false).cells (n * 1)).toList) (hgr:w.grownBy w' none) (j:Nat) (hj:j < n) :
  Hid (RowB w' w.heap.size (List.replicate n false) ∧ Below w.heap.size w w') ∧ w'.cell? ⟨w.heap.size,j,none⟩ = some (.bool false) ∧ w'.frozen? ⟨w.heap.size,j,none⟩ = false:=by
 have hrow0:(madeCells (Value.bool false).cells (n * 1)).toList = boolV (List.replicate n false):=by
  rw [Nat.mul_one]
  show (madeCells #[Value.bool false] n).toList = _
  rw [toList_madeCells_one];simp [boolV]
 have hb3:Below w.heap.size w w':=(Below.refl _ _).grown hgr (Nat.le_refl _) (fun k hk=>by cases hk)
 rw [hrow0] at hown
 have hrw:=own_fullB hown
 exact ⟨Lib.hid ⟨hrw,hb3⟩,hrw.cell (i:=j) (b:=false) (by rw [List.getElem?_replicate,if_pos hj]),hrw.frozen j⟩
set_option maxRecDepth 100000 in
set_option maxHeartbeats 8000000 in
theorem holdsSome_any {tb:Nat} {evs:List Ev} {f:Nat} (HST:StepX tb evs f) (v:Int) (x:PX) (cs:List Value) (w:World) (hv1:-1 ≤ v) (hv2:v < (nodesB evs).length) (hq:TQ w tb evs) (h:XAt (f + 1) w x cs) (hg:goodXB (f + 1) x = true) (hop:x.op = 3) :
  Calls Tryz.prog 138 #[.agg #[.pointer (some ⟨tb,0,none⟩)],.int .i64 v,.agg cs.toArray] w fun e w'=>e = .returned (.bool (holdP (treePT evs) (f + 1) v x)) ∧ Below w.heap.size w w':=by
 obtain ⟨aa,ac,pa,pc,rfl,hal,hpl,_,_,_,hatl,htxl,hargl,hpathl,hargs,hpath⟩:=h
 obtain ⟨i0,hi0,hz0,hz1,hz2⟩:=info_parts infoBool
 have hgp:=goodXB_path hg hop
 have hgd:∀ s ∈ x.path,s.wher.all (goodXB f) = true:=fun s hs=>by
  obtain ⟨i,hi,rfl⟩:=List.getElem_of_mem hs
  have:=goodPB_at hgp i hi
  unfold goodSB at this
  rw [Bool.and_eq_true] at this
  exact this.2
 obtain ⟨W0,hW0⟩:∃ W0,W0 = (w.alloc (.cells #[.pointer (some ⟨tb,0,none⟩)] 153)).alloc (.cells (exprC x aa ac pa pc).toArray 42):=⟨_,rfl⟩
 have hb0:Below w.heap.size w W0:=by rw [hW0];exact ((Below.refl w.heap.size w).alloc (Nat.le_refl _) _).alloc (by simp) _
 have hsz0:W0.heap.size = w.heap.size + 2:=by rw [hW0];simp
 have hk3:W0.heap[w.heap.size]? = some (.cells #[.pointer (some ⟨tb,0,none⟩)] 153 (0,0)):=by
  rw [hW0,Below.heap_alloc _ _ _ (by simp)];exact heap_alloc_new w _
 have hk5:W0.heap[w.heap.size + 1]? = some (.cells (exprC x aa ac pa pc).toArray 42 (0,0)):=by
  rw [hW0]
  have:=heap_alloc_new (w.alloc (.cells #[.pointer (some ⟨tb,0,none⟩)] 153)) (.cells (exprC x aa ac pa pc).toArray 42)
  rw [World.size_alloc] at this
  exact this
 have HW0:Hid (Below w.heap.size w W0 ∧ W0.heap.size = w.heap.size + 2 ∧ W0.heap[w.heap.size]? = some (.cells #[.pointer (some ⟨tb,0,none⟩)] 153 (0,0)) ∧ W0.heap[w.heap.size + 1]? = some (.cells (exprC x aa ac pa pc).toArray 42 (0,0))):=Lib.hid ⟨hb0,hsz0,hk3,hk5⟩
 have HKS:Hid (∀ W,Below (w.heap.size + 2) W0 W → W.cell? ⟨w.heap.size,0,none⟩ = some (.pointer (some ⟨tb,0,none⟩)) ∧ W.cell? ⟨w.heap.size + 1,0,none⟩ = some (.int .i64 x.op) ∧ W.cell? ⟨w.heap.size + 1,1,none⟩ = some (.slice aa x.args.length ac) ∧ W.cell? ⟨w.heap.size + 1,2,none⟩ = some (.slice pa x.path.length pc) ∧ W.cell? ⟨w.heap.size + 1,3,none⟩ = some (.string (strL x.attr)) ∧ W.cell? ⟨w.heap.size + 1,4,none⟩ = some (.int .i64 x.cmp) ∧ W.cell? ⟨w.heap.size + 1,5,none⟩ = some (.string (strL x.text)) ∧ W.cell? ⟨w.heap.size + 1,6,none⟩ = some (.int .i64 x.num)):=Lib.hid fun W hW=>by
  have h5:=(hW.block (w.heap.size + 1) (by omega)).trans hk5
  refine ⟨by rw [cell_heap ((hW.block w.heap.size (by omega)).trans hk3)];rfl,?_,?_,?_,?_,?_,?_,?_⟩ <;> (rw [cell_heap h5];rfl)
 have HLEN:Hid (∀ W,Below w.heap.size w W → Calls Tryz.prog 81 #[.pointer (some ⟨tb,0,none⟩)] W fun e w'=>e = .returned (.int .i64 ((nodesB evs).length:Nat)) ∧ w' = W):=Lib.hid fun W hW=>by
  obtain ⟨⟨B,ht⟩,hwh,_⟩:=hq.below hW
  exact len_any (treeLast ht hwh)
 have HSX:Hid (∀ (g n:Nat) (W:World),Below w.heap.size w W → n = (nodesB evs).length + 1 → RowB W g (oneP (nodesB evs).length v) → Calls Tryz.prog 82 #[.agg #[.pointer (some ⟨tb,0,none⟩)],.slice (some ⟨g,0,none⟩) n n,.slice pa x.path.length pc] W fun e w'=>∃ g',e = .returned (.slice (some ⟨g',0,none⟩) n n) ∧ RowB w' g' (stepsP (holdP (treePT evs) f) (treePT evs) (oneP (nodesB evs).length v) x.path) ∧ Below W.heap.size W w'):=Lib.hid fun g n W hW hn hr =>
  HST g n pc pa _ x.path W (hq.below hW) hn (by rw [oneP_len];exact hn.symm) hr (SsAt.below hpath hW) hpathl hgd
 have HCM:Hid (∀ (u:Int) W,Below w.heap.size w W → -1 ≤ u → u < (nodesB evs).length → Calls Tryz.prog 151 #[.agg #[.pointer (some ⟨tb,0,none⟩)],.int .i64 u,.agg (exprC x aa ac pa pc).toArray] W fun e w'=>e = .returned (.bool (comparesP (treePT evs) u x)) ∧ Below W.heap.size W w'):=Lib.hid fun u W hW h1 h2 =>
  compares_any u x aa ac pa pc W (hq.below hW) h1 h2 hatl htxl
 have HONE:=Lib.hid (oneP_set (nodesB evs).length v hv1)
 have hN:(nodesB evs).length ≤ 1024:=hq.len
 obtain ⟨R,hR⟩:∃ R,holdP (treePT evs) (f + 1) v x = R:=⟨_,rfl⟩
 rw [hR]
 have HR:Hid (someP (treePT evs) (stepsP (holdP (treePT evs) f) (treePT evs) (oneP (nodesB evs).length v) x.path) x = R):=Lib.hid (by rw [← hR,holdP_succ,if_neg (by rw [hop];decide),if_neg (by rw [hop];decide),if_neg (by rw [hop];decide)];rfl)
 have HFL:Hid ((stepsP (holdP (treePT evs) f) (treePT evs) (oneP (nodesB evs).length v) x.path).length = (nodesB evs).length + 1):=Lib.hid (by rw [stepsP_len,oneP_len])
 generalize stepsP (holdP (treePT evs) f) (treePT evs) (oneP (nodesB evs).length v) x.path = fr at *
 clear hb0 hsz0 hk3 hk5 hargs hpath hR hatl htxl hg hgp hgd hq
 unfold exprC at *
 rw [hop] at *
 have HW0E:=Lib.hid hW0
 clear hW0
 generalize hNN:(nodesB evs).length = N at *
 obtain ⟨n,hn⟩:∃ n,n = N + 1:=⟨_,rfl⟩
 have HNE:=Lib.hid hn
 have ewN:IntKind.i64.wrap ((N:Int) + 1) = ((n:Nat):Int):=by rw [IntWalk.i64_in _ (by omega)];omega
 have ewv:IntKind.i64.wrap (v + 1) = v + 1:=IntWalk.i64_in _ (by omega)
 have hn2:n ≤ 1025:=by omega
 have v1:(0:Int) ≤ v + 1:=by omega
 have v2:v + 1 < (n:Int):=by omega
 have HV:=Lib.hid (show (v + 1).toNat < n by omega)
 clear hn
 go_enter Tryz.func138,Tryz.ntmps138
 go_wp2_with fail
 rw [← HW0E.out]
 obtain ⟨c3,x0,x1,x2,x3,x4,x5,x6⟩:=HKS.out W0 (Below.refl _ _)
 (with_reducible refine (HLEN.out W0 HW0.out.1).mono ?_)
 rintro e w2 ⟨rfl,rfl⟩
 have HK4:Hid (∀ w3,Below w2.heap.size w2 w3 → Below (w.heap.size + 2) w2 (w3.setCell ⟨w2.heap.size,(v + 1).toNat,none⟩ (.bool true))):=Lib.hid fun w3 hb3 =>
  (hb3.mono (by rw [HW0.out.2.1];exact Nat.le_refl _)).setCell (p:=⟨w2.heap.size,(v + 1).toNat,none⟩) (by rw [HW0.out.2.1];exact Nat.le_refl _) _
 go_wp2_with (at_make;go_must ((refine wpList_make_full _ (by rfl) _ _ 150 (by rfl) w.heap.size 4 i0 _ 1 Tryz.underlying150 hi0 hz0 hz1 .i64 .i64 (n:Int) (n:Int) n (by rfl) (by rfl) rfl rfl (by rw [hz2];omega) (by unfold maxLen;omega) (by rw [HW0.out.2.1];omega) (fun w3 hown hgr=>?_));(obtain ⟨HRB,hgc,hgf⟩:=made_row hown hgr (v + 1).toNat HV.out);(obtain ⟨c3',x0',x1',x2',x3',x4',x5',x6'⟩:=HKS.out _ (HK4.out _ HRB.out.2));(clear hown hgr)))
 have hrw:=HRB.out.1
 have hb3:=HRB.out.2
 have hr4:=hrw.set (v + 1).toNat true
 rw [← HNE.out] at HONE
 rw [← HONE.out] at hr4
 have hb4:=HK4.out _ hb3
 have hb4':=HW0.out.1.trans (hb4.mono (by omega))
 have HSXX:=Lib.hid (HSX.out w2.heap.size n _ hb4' HNE.out hr4)
 have HB4:=Lib.hid (And.intro hb4 hb4')
 have HSZ4:Hid (w.heap.size + 2 ≤ (w3.setCell ⟨w2.heap.size,(v + 1).toNat,none⟩ (.bool true)).heap.size):=Lib.hid (by have:=hb4.size;have:=HW0.out.2.1;omega)
 clear hb3 hrw HRB hr4 hb4 hb4'
 clear c3 x0 x1 x2 x3 x4 x5 x6
 go_wp2_with fail
 (with_reducible refine HSXX.out.mono ?_)
 rintro e w5 ⟨g',rfl,hr5,hb5⟩
 have HR5:Hid (Below w.heap.size w w5 ∧ Below (w.heap.size + 2) w2 w5 ∧ RowB w5 g' fr):=Lib.hid ⟨HB4.out.2.trans (hb5.mono (by have:=HSZ4.out;omega)),HB4.out.1.trans (hb5.mono HSZ4.out),hr5⟩
 have HFN:Hid (fr.length = n):=Lib.hid (by rw [HFL.out,HNE.out])
 clear hr5 hb5 c3' x0' x1' x2' x3' x4' x5' x6' hgc hgf
 go_wp2_with fail
 go_loopw [61] (fun jv wr=>∃ j:Nat,jv = .int .i64 j ∧ j ≤ n ∧ Hid ((∀ k,k < j → (fr[k]?.getD false && comparesP (treePT evs) ((k:Int) - 1) x) = false) ∧ Below w.heap.size w wr ∧ Below (w.heap.size + 2) w2 wr ∧ RowB wr g' fr)) (fun jv _=>n - (intOf jv).toNat)
 case atStart=>exact ⟨0,rfl,Nat.zero_le _,Lib.hid ⟨fun _ h=>absurd h (Nat.not_lt_zero _),HR5.out⟩⟩
 case round =>
  obtain ⟨j,rfl,hjn,HJ⟩:=hrel
  obtain ⟨w13,rfl⟩:∃ w13,w13 = wr:=⟨_,rfl⟩
  by_cases hj:j < n
  ·have hjf:j < fr.length:=by rw [HFN.out];exact hj
   have hc:=HJ.out.2.2.2.cell (List.getElem?_eq_getElem hjf)
   have HNX:Hid (∀ u,fr[j] = u → (u && comparesP (treePT evs) ((j:Int) - 1) x) = false → ∀ k,k < j + 1 → (fr[k]?.getD false && comparesP (treePT evs) ((k:Int) - 1) x) = false):=Lib.hid fun u hu h2 k hk=>by
    rcases Nat.lt_or_ge k j with h | h
    ·exact HJ.out.1 k h
    ·have:k = j:=by omega
     subst this;rw [List.getElem?_eq_getElem hjf,Option.getD_some,hu];exact h2
   have i3:(0:Int) ≤ (j:Int):=by omega
   have i4:(j:Int) < (n:Int):=by omega
   have ewj:IntKind.i64.wrap ((j:Int) + 1) = (j:Int) + 1:=IntWalk.i64_in _ (by omega)
   have ewk:IntKind.i64.wrap ((j:Int) - 1) = (j:Int) - 1:=IntWalk.i64_in _ (by omega)
   have HFT:Hid (fr[j] = true → comparesP (treePT evs) ((j:Int) - 1) x = true → true = R):=Lib.hid fun h1 h2=>by
    rw [← HR.out]
    refine (List.any_eq_true.2 ⟨j,List.mem_range.2 hjf,?_⟩).symm
    rw [List.getElem?_eq_getElem hjf,Option.getD_some,h1,h2];rfl
   generalize hfb:fr[j] = fb at *
   have HFBE:=Lib.hid hfb
   clear hfb
   cases fb with
   | false =>
    have HN:=Lib.hid (HNX.out false rfl rfl)
    clear HNX HFT
    go_wp2_with fail
    go_roundw
    case rel=>exact ⟨j + 1,by go_num,by omega,Lib.hid ⟨HN.out,HJ.out.2⟩⟩
    case measure=>simp [intOf];omega
   | true =>
    obtain ⟨c3,x0,x1,x2,x3,x4,x5,x6⟩:=HKS.out w13 HJ.out.2.2.1
    have HCC:=Lib.hid (HCM.out ((j:Int) - 1) w13 HJ.out.2.1 (by omega) (by have:=HNE.out;omega))
    generalize comparesP (treePT evs) ((j:Int) - 1) x = cb at *
    go_wp2_with fail
    (with_reducible refine HCC.out.mono ?_)
    rintro e w15 ⟨rfl,hb15⟩
    have hsz:w.heap.size + 2 ≤ w13.heap.size:=by have:=HJ.out.2.2.1.size;have:=HW0.out.2.1;omega
    have HB16:Hid (Below w.heap.size w w15 ∧ Below (w.heap.size + 2) w2 w15 ∧ RowB w15 g' fr):=Lib.hid ⟨HJ.out.2.1.trans (hb15.mono (by omega)),HJ.out.2.2.1.trans (hb15.mono hsz),HJ.out.2.2.2.below HJ.out.2.2.2.lt hb15⟩
    clear hb15 hsz c3 x0 x1 x2 x3 x4 x5 x6
    cases cb with
    | true =>
     have HTT:=Lib.hid (HFT.out (by trivial) (by trivial))
     go_wp2_with fail
     go_ret
     exact ⟨ret_bool HTT.out,HB16.out.1⟩
    | false =>
     have HN:=Lib.hid (HNX.out true rfl rfl)
     go_wp2_with fail
     go_roundw
     case rel=>exact ⟨j + 1,by go_num,by omega,Lib.hid ⟨HN.out,HB16.out⟩⟩
     case measure=>simp [intOf];omega
  ·have i4:(n:Int) ≤ (j:Int):=by omega
   have HTT:Hid (false = R):=Lib.hid (by
    rw [← HR.out]
    refine (List.any_eq_false.2 fun k hk=>?_).symm
    rw [HJ.out.1 k (by have:=List.mem_range.1 hk;have:=HFN.out;omega)]
    decide)
   go_wp2_with fail
   go_ret
   exact ⟨ret_bool HTT.out,HJ.out.2.1⟩
end Go.Proofs.YtgjokdngbocehaaGreatDoor
namespace Go.Proofs.YtgjokdngbocehaaGreatDoor
open Go.RowKit
set_option maxRecDepth 100000 in
set_option maxHeartbeats 4000000 in
theorem holdsOr_any {tb:Nat} {evs:List Ev} {f:Nat} (HX:HoldX tb evs f) (v:Int) (x0:PX) (cs:List Value) (w:World) (hv1:-1 ≤ v) (hv2:v < (nodesB evs).length) (hq:TQ w tb evs) (h:XAt (f + 1) w x0 cs) (hg:goodXB (f + 1) x0 = true) (hop:x0.op = 1) :
  Calls Tryz.prog 138 #[.agg #[.pointer (some ⟨tb,0,none⟩)],.int .i64 v,.agg cs.toArray] w fun e w'=>e = .returned (.bool (holdP (treePT evs) (f + 1) v x0)) ∧ Below w.heap.size w w':=by
 obtain ⟨aa,ac,pa,pc,rfl,hal,hpl,_,_,_,hatl,htxl,hn,hpathl,hx,hpath⟩:=h
 obtain ⟨_,hga⟩:=goodXB_args hg (by rw [hop];decide)
 rw [show holdP (treePT evs) (f + 1) v x0 = x0.args.any (holdP (treePT evs) f v) by rw [holdP_succ,if_neg (by rw [hop];decide),if_pos hop]]
 obtain ⟨l,hl⟩:∃ l,x0.args = l:=⟨_,rfl⟩
 have HROW:Hid (XsAt f w aa l):=Lib.hid (hl ▸ hx)
 have HG:Hid (∀ x ∈ l,goodXB f x = true):=Lib.hid (hl ▸ hga)
 have HCA:Hid (∀ (x:PX) (cs:List Value) (W:World),x ∈ l → Below w.heap.size w W → XAt f W x cs → Calls Tryz.prog 138 #[.agg #[.pointer (some ⟨tb,0,none⟩)],.int .i64 v,.agg cs.toArray] W fun e w'=>e = .returned (.bool (holdP (treePT evs) f v x)) ∧ Below W.heap.size W w'):=Lib.hid fun x cs W hxl hW hxa =>
  HX v x cs W hv1 hv2 (hq.below hW) hxa (HG.out x hxl)
 obtain ⟨ow,how⟩:∃ o,o = Obj.cells (exprC x0 aa ac pa pc).toArray 42:=⟨_,rfl⟩
 obtain ⟨W0,hW0⟩:∃ W0,W0 = (w.alloc (.cells #[.pointer (some ⟨tb,0,none⟩)] 153)).alloc ow:=⟨_,rfl⟩
 have hb0:Below w.heap.size w W0:=by rw [hW0];exact ((Below.refl w.heap.size w).alloc (Nat.le_refl _) _).alloc (by simp) _
 have hsz0:W0.heap.size = w.heap.size + 2:=by rw [hW0];simp
 have hk3:W0.heap[w.heap.size]? = some (.cells #[.pointer (some ⟨tb,0,none⟩)] 153 (0,0)):=by
  rw [hW0,Below.heap_alloc _ _ _ (by simp)];exact heap_alloc_new w _
 have HB0:Hid (Below w.heap.size w W0):=Lib.hid hb0
 have HCL:Hid (∀ W,Below (w.heap.size + 2) W0 W → W.cell? ⟨w.heap.size,0,none⟩ = some (.pointer (some ⟨tb,0,none⟩))):=Lib.hid fun W hW=>by
  rw [cell_heap ((hW.block w.heap.size (by omega)).trans hk3)];rfl
 have HBB:Hid (Below (w.heap.size + 2) W0 W0):=Lib.hid (Below.refl _ _)
 have HSZ:Hid (w.heap.size + 2 ≤ W0.heap.size):=Lib.hid (by omega)
 rw [hl]
 obtain ⟨R,hR⟩:∃ R,l.any (holdP (treePT evs) f v) = R:=⟨_,rfl⟩
 rw [hR]
 have HT:Hid (∀ x ∈ l,holdP (treePT evs) f v x = true → true = R):=Lib.hid fun x hxl h=>by rw [← hR];exact (List.any_eq_true.2 ⟨x,hxl,h⟩).symm
 have HF:Hid ((∀ x ∈ l,holdP (treePT evs) f v x = false) → false = R):=Lib.hid fun h=>by
  rw [← hR]
  exact (List.any_eq_false.2 fun x hx=>by rw [h x hx];decide).symm
 have hn':l.length ≤ 1048576:=hl ▸ hn
 unfold exprC at how
 rw [hop,hl] at how
 clear hR hx hq hn hga hg hpath hatl htxl hb0 hsz0 hk3
 try unfold exprC
 rw [hop]
 try rw [hl]
 generalize hq:l.length = q at *
 have HQQ:=Lib.hid hq
 have HHW:=Lib.hid (And.intro hW0 how)
 clear hq hl hop hW0 how
 go_enter Tryz.func138,Tryz.ntmps138
 go_wp2_with fail
 rw [← HHW.out.2,← HHW.out.1]
 go_loopw [26] (fun jv wr=>∃ j:Nat,jv = .int .i64 j ∧ j ≤ q ∧ Hid ((∀ i (hi:i < l.length),i < j → holdP (treePT evs) f v l[i] = false) ∧ Below w.heap.size w wr ∧ Below (w.heap.size + 2) W0 wr ∧ w.heap.size + 2 ≤ wr.heap.size)) (fun jv _=>q - (intOf jv).toNat)
 case atStart=>exact ⟨0,rfl,Nat.zero_le _,Lib.hid ⟨fun _ _ h=>absurd h (Nat.not_lt_zero _),HB0.out,HBB.out,HSZ.out⟩⟩
 case round =>
  obtain ⟨j,rfl,hjq,HJ⟩:=hrel
  obtain ⟨w13,rfl⟩:∃ w13,w13 = wr:=⟨_,rfl⟩
  by_cases hjl:j < q
  ·have hjw:j < l.length:=by rw [HQQ.out];exact hjl
   obtain ⟨b2,o2,ya,yc,yp,yd,rfl,hb2,hx,hcs⟩:=HROW.out.get' j hjw
   obtain ⟨x0,x1,x2,x3,x4,x5,x6⟩:=hcs w13 HJ.out.2.1
   have HMEM:Hid (l[j] ∈ l):=Lib.hid (List.getElem_mem hjw)
   have HNX:Hid (holdP (treePT evs) f v l[j] = false → ∀ i (hi:i < l.length),i < j + 1 → holdP (treePT evs) f v l[i] = false):=Lib.hid fun h2 i hi hij=>by
    rcases Nat.lt_or_ge i j with h | h
    ·exact HJ.out.1 i hi h
    ·have:i = j:=by omega
     subst this;exact h2
   have HDX:Hid (∀ W,Below w.heap.size w W → Calls Tryz.prog 138 #[.agg #[.pointer (some ⟨tb,0,none⟩)],.int .i64 v,.agg (exprC l[j] ya yc yp yd).toArray] W fun e w'=>e = .returned (.bool (holdP (treePT evs) f v l[j])) ∧ Below W.heap.size W w'):=Lib.hid fun W hW =>
    HCA.out l[j] _ W (List.getElem_mem hjw) hW (XAt.turn hW (Nat.le_refl _) hx)
   clear hcs hx hb2
   generalize l[j] = y at *
   unfold exprC at HDX
   generalize hhv:holdP (treePT evs) f v y = hb at *
   have i3:(0:Int) ≤ (j:Int):=by omega
   have i4:(j:Int) < (q:Int):=by omega
   have ewj:IntKind.i64.wrap ((j:Int) + 1) = (j:Int) + 1:=IntWalk.i64_in _ (by omega)
   have HB14:Hid (∀ o,Below w.heap.size w (w13.alloc o) ∧ Below (w.heap.size + 2) W0 (w13.alloc o) ∧ w.heap.size + 2 ≤ (w13.alloc o).heap.size):=Lib.hid fun o=>⟨HJ.out.2.1.alloc HJ.out.2.1.size _,HJ.out.2.2.1.alloc HJ.out.2.2.2 _,by have:=HJ.out.2.2.2;simp;omega⟩
   have c3:=HCL.out _ (HB14.out (.cells #[.int .i64 y.op,.slice ya y.args.length yc,.slice yp y.path.length yd,.string (strL y.attr),.int .i64 y.cmp,.string (strL y.text),.int .i64 y.num] 42)).2.1
   have HHV:=Lib.hid hhv
   clear hhv
   have HB15:=Lib.hid (HB14.out (.cells #[.int .i64 y.op,.slice ya y.args.length yc,.slice yp y.path.length yd,.string (strL y.attr),.int .i64 y.cmp,.string (strL y.text),.int .i64 y.num] 42))
   clear HB14
   go_wp2_with fail
   generalize w13.alloc (.cells #[.int .i64 y.op,.slice ya y.args.length yc,.slice yp y.path.length yd,.string (strL y.attr),.int .i64 y.cmp,.string (strL y.text),.int .i64 y.num] 42) = w14 at *
   (with_reducible refine (HDX.out _ HB15.out.1).mono ?_)
   rintro e w15 ⟨rfl,hb15⟩
   have HB16:Hid (Below w.heap.size w w15 ∧ Below (w.heap.size + 2) W0 w15 ∧ w.heap.size + 2 ≤ w15.heap.size):=Lib.hid ⟨HB15.out.1.trans (hb15.mono HB15.out.1.size),HB15.out.2.1.trans (hb15.mono HB15.out.2.2),Nat.le_trans HB15.out.2.2 hb15.size⟩
   clear hb15
   cases hb with
   | false =>
    have HN:=Lib.hid (HNX.out rfl)
    go_wp2_with fail
    go_roundw
    case rel=>exact ⟨j + 1,by go_num,by omega,Lib.hid ⟨HN.out,HB16.out⟩⟩
    case measure=>simp [intOf];omega
   | true =>
    have HFF:=Lib.hid (HT.out y HMEM.out HHV.out)
    go_wp2_with fail
    go_ret
    exact ⟨ret_bool HFF.out,HB16.out.1⟩
  ·have i4:(q:Int) ≤ (j:Int):=by omega
   have HTT:Hid (false = R):=Lib.hid (HF.out fun x hx=>by
    obtain ⟨i,hi,rfl⟩:=List.getElem_of_mem hx
    exact HJ.out.1 i hi (by have:=HQQ.out;omega))
   go_wp2_with fail
   go_ret
   exact ⟨ret_bool HTT.out,HJ.out.2.1⟩
end Go.Proofs.YtgjokdngbocehaaGreatDoor
namespace Go.Proofs.YtgjokdngbocehaaGreatDoor
open Go.RowKit
section
variable {L:Nat} {f:Nat → Nat} {p:Nat → Int}
theorem lam_of (h:AxF L f p) (i:Nat) (hi:i < L):∀ j,i ≤ j → j ≤ f i → f j ≤ f i:=by
 intro j
 induction j using Nat.strongRecOn with
 | _ j ih =>
  intro hij hjf
  by_cases e:i = j
  ·rw [e];exact Nat.le_refl _
  ·have hr:=h.rng i hi
   have hp:=par_ge h i hi j (by omega) hjf
   have hl:=(h.plt j (by omega)).2
   have hin:=h.ins j (by omega)
   obtain ⟨q,hq⟩:∃ q:Nat,p j = (q:Int):=⟨(p j).toNat,by omega⟩
   have hhi:hiP L f (p j) = f q + 1:=by rw [hq];unfold hiP;rw [if_neg (by omega),Int.toNat_natCast]
   rw [hhi] at hin
   have:=ih q (by omega) (by omega) (by omega)
   omega
def lstOf (L:Nat) (f:Nat → Nat) (b:Nat):Nat:=if b = 0 then L else if b - 1 < L then f (b - 1) + 1 else b
theorem lstOf_lam (h:AxF L f p) (a b:Nat) (h1:a ≤ b) (h2:b ≤ lstOf L f a):lstOf L f b ≤ lstOf L f a:=by
 unfold lstOf at h2 ⊢
 by_cases ea:a = 0
 ·rw [if_pos ea] at h2 ⊢
  by_cases eb:b = 0
  ·rw [if_pos eb];exact Nat.le_refl _
  ·rw [if_neg eb,if_pos (by omega)]
   have:=h.rng (b - 1) (by omega)
   omega
 ·rw [if_neg ea] at h2 ⊢
  rw [if_neg (by omega:¬ b = 0)]
  by_cases hL:a - 1 < L
  ·rw [if_pos hL] at h2 ⊢
   have:=h.rng (a - 1) hL
   rw [if_pos (by omega)]
   have:=lam_of h (a - 1) hL (b - 1) (by omega) (by omega)
   omega
  ·rw [if_neg hL] at h2 ⊢
   have:b = a:=by omega
   subst this
   rw [if_neg hL];exact Nat.le_refl _
theorem mem_rngL {a b:Nat} {x:Int}:x ∈ rngL a b ↔ (a:Int) ≤ x ∧ x < (b:Int):=by
 refine ⟨fun h=>by obtain ⟨i,rfl,h1,h2⟩:=rngL_mem h;omega,fun h=>?_⟩
 unfold rngL
 refine List.mem_map.2 ⟨x.toNat,?_,by omega⟩
 rw [List.mem_range'_1];omega
end
theorem axOK_of {evs:List Ev} (h:wholeB evs = true):AxOK (treePT evs) (lstOf (nodesB evs).length (lastN evs)):=by
 have hx:=axF_of h
 refine ⟨fun n a x hxm=>alongM_in hx.rng n a x hxm,fun j k hj a ha=>?_,fun a b h1 h2=>lstOf_lam hx a b h1 h2⟩
 have hj':j ≤ (nodesB evs).length:=hj
 have hd:a = 1 ∨ a = 2:=by unfold deepA at ha;simpa using ha
 have hhi:(hiOf (nodesB evs).length (lastN evs) ((j:Int) - 1):Nat) = lstOf (nodesB evs).length (lastN evs) j:=by
  unfold hiOf lstOf
  by_cases e:j = 0
  ·rw [if_pos (by omega),if_pos e]
  ·rw [if_neg (by omega),if_neg e,if_pos (by omega),show ((j:Int) - 1).toNat = j - 1 by omega]
 show ((k:Int) - 1) ∈ alongM (nodesB evs).length (lastN evs) ((j:Int) - 1) a ↔ _
 rw [← alongR_eq hx]
 unfold alongR DReach
 rw [if_neg (by omega),hhi,show ((j:Int) - 1 + 1).toNat = j by omega,filt_all (fun y _=>by unfold keepR;rcases hd with rfl | rfl <;> simp),List.mem_append,mem_rngL]
 rcases hd with rfl | rfl
 ·rw [if_neg (by omega)]
  simp
  omega
 ·rw [if_pos (by omega)]
  simp
  omega
theorem steps_of {f tb:Nat} {evs:List Ev} (HX:HoldX tb evs f):StepX tb evs f:=fun g0 n c a fr ss w hq hn hfn hrow h hml hgd =>
 steps_any (holdP (treePT evs) f) g0 n c a fr ss w hq hn hfn hrow h hml (axOK_of hq.whole) hgd fun v l la lc W hv1 hv2 hqW hx hl hg=>all_of HX v l la lc W hv1 hv2 hqW hx hl hg
theorem holds_all (tb:Nat) (evs:List Ev):∀ f,HoldX tb evs f
 | 0=>fun v x cs W _ _ _ _ hg=>by cases hg
 | f + 1=>fun v x cs W hv1 hv2 hq h hg=>by
  have HX:=holds_all tb evs f
  have hop:x.op = 0 ∨ x.op = 1 ∨ x.op = 2 ∨ x.op = 3:=by
   by_cases h3:x.op = 3
   ·exact .inr (.inr (.inr h3))
   ·rcases (goodXB_args hg h3).1 with h | h | ⟨h,_⟩
    ·exact .inl h
    ·exact .inr (.inl h)
    ·exact .inr (.inr (.inl h))
  rcases hop with h0 | h1 | h2 | h3
  ·exact holdsAnd_any HX v x cs W hv1 hv2 hq h hg h0
  ·exact holdsOr_any HX v x cs W hv1 hv2 hq h hg h1
  ·exact holdsNot_any HX v x cs W hv1 hv2 hq h hg h2
  ·exact holdsSome_any (steps_of HX) v x cs W hv1 hv2 hq h hg h3
theorem steps_all (f tb:Nat) (evs:List Ev):StepX tb evs f:=steps_of (holds_all tb evs f)
end Go.Proofs.YtgjokdngbocehaaGreatDoor
namespace Go.Proofs.YtgjokdngbocehaaGreatDoor
open Go.RowKit
theorem stepP_at (hold:Int → PX → Bool) (T:PT) (fr:List Bool) (s:PS) (k:Nat):(stepP hold T fr s)[k]?.getD false = true ↔ k < fr.length ∧ (∃ j,j < fr.length ∧ fr[j]?.getD false = true ∧ ((k:Int) - 1) ∈ T.along ((j:Int) - 1) s.axis) ∧ meetsP T ((k:Int) - 1) s = true ∧ s.wher.all (hold ((k:Int) - 1)) = true:=by
 unfold stepP
 rw [List.getElem?_map]
 rcases Nat.lt_or_ge k fr.length with h | h
 ·rw [List.getElem?_range h]
  simp only [Option.map_some,Option.getD_some,Bool.and_eq_true,reachP_iff]
  exact ⟨fun ⟨a,b,c⟩=>⟨h,a,b,c⟩,fun ⟨_,a,b,c⟩=>⟨a,b,c⟩⟩
 ·rw [List.getElem?_eq_none (by simpa using h)]
  exact ⟨fun h=>(by cases h),fun ⟨h1,_⟩=>absurd h1 (by omega)⟩
theorem oneP_at (N:Nat) (n:Int) (k:Nat):(oneP N n)[k]?.getD false = true ↔ k ≤ N ∧ (k:Int) = n + 1:=by
 unfold oneP
 rw [List.getElem?_map]
 rcases Nat.lt_or_ge k (N + 1) with h | h
 ·rw [List.getElem?_range h]
  simp only [Option.map_some,Option.getD_some,decide_eq_true_eq]
  exact ⟨fun a=>⟨by omega,a⟩,fun a=>a.2⟩
 ·rw [List.getElem?_eq_none (by simpa using h)]
  exact ⟨fun h=>(by cases h),fun ⟨h1,_⟩=>absurd h1 (by omega)⟩
theorem stepsP_cons (hold:Int → PX → Bool) (T:PT) (fr:List Bool) (s:PS) (ss:List PS):stepsP hold T fr (s :: ss) = stepsP hold T (stepP hold T fr s) ss:=rfl
theorem stepsP_app (hold:Int → PX → Bool) (T:PT) (fr:List Bool) (ss tt:List PS):stepsP hold T fr (ss ++ tt) = stepsP hold T (stepsP hold T fr ss) tt:=by unfold stepsP;rw [List.foldl_append]
theorem stepsP_lin (hold:Int → PX → Bool) (T:PT) (N:Nat):∀ (ss:List PS) (fr:List Bool),fr.length = N + 1 → ∀ k:Nat,((stepsP hold T fr ss)[k]?.getD false = true ↔ ∃ j:Nat,j < fr.length ∧ fr[j]?.getD false = true ∧ (stepsP hold T (oneP N ((j:Int) - 1)) ss)[k]?.getD false = true):=by
 intro ss
 induction ss with
 | nil =>
  intro fr hl k
  show fr[k]?.getD false = true ↔ ∃ j:Nat,j < fr.length ∧ fr[j]?.getD false = true ∧ (oneP N ((j:Int) - 1))[k]?.getD false = true
  constructor
  ·intro h
   have:=fr_lt h
   exact ⟨k,this,h,(oneP_at ..).2 ⟨by omega,by omega⟩⟩
  ·rintro ⟨j,h1,h2,h3⟩
   have:=((oneP_at ..).1 h3).2
   have e:k = j:=by omega
   rw [e];exact h2
 | cons s ss ih =>
  intro fr hl k
  rw [stepsP_cons,ih _ (by rw [stepP_len,hl]) k,stepP_len]
  constructor
  ·rintro ⟨j',h1,h2,h3⟩
   obtain ⟨_,⟨j,q1,q2,q3⟩,q4,q5⟩:=(stepP_at ..).1 h2
   refine ⟨j,q1,q2,?_⟩
   rw [stepsP_cons,ih _ (by rw [stepP_len,oneP_len]) k,stepP_len,oneP_len]
   refine ⟨j',by omega,(stepP_at ..).2 ⟨by rw [oneP_len];omega,⟨j,by rw [oneP_len];omega,(oneP_at ..).2 ⟨by omega,by omega⟩,q3⟩,q4,q5⟩,h3⟩
  ·rintro ⟨j,q1,q2,h⟩
   rw [stepsP_cons,ih _ (by rw [stepP_len,oneP_len]) k,stepP_len,oneP_len] at h
   obtain ⟨j',h1,h2,h3⟩:=h
   obtain ⟨_,⟨i,p1,p2,p3⟩,q4,q5⟩:=(stepP_at ..).1 h2
   have hi:=((oneP_at ..).1 p2).2
   have e:i = j:=by omega
   subst e
   exact ⟨j',by omega,(stepP_at ..).2 ⟨by omega,⟨i,q1,q2,p3⟩,q4,q5⟩,h3⟩
end Go.Proofs.YtgjokdngbocehaaGreatDoor
