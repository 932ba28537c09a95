/-
  ask.bracketed, ask.deepPath, ask.deepExpr.
-/
import Derived.StillTailTactics
import Derived.Test.YtgjokdngbocehaaGreatDoorHsA
import Derived.Test.YtgjokdngbocehaaGreatDoorHsC
import Derived.Test.YtgjokdngbocehaaGreatDoorHsD
import Derived.Test.YtgjokdngbocehaaGreatDoorHsE
import Derived.Test.YtgjokdngbocehaaGreatDoorHsL
import Derived.Test.YtgjokdngbocehaaGreatDoorHsN
import Derived.Test.YtgjokdngbocehaaGreatDoorHsS
namespace Go.Proofs.YtgjokdngbocehaaGreatDoor
open Go.RowKit
set_option maxRecDepth 100000 in
theorem brack_any (a b:Int) (w:World):Calls Tryz.prog 92 #[.int .i64 a,.int .i64 b] w fun e w'=>e = .returned (.bool (brackB a b)) ∧ w' = w:=by
 unfold brackB
 cases h1:(b == 1:Bool) <;> cases h2:(a != 2:Bool) <;> cases h3:(a == 0:Bool) <;> cases h4:(b == 0:Bool)
 all_goals
  go_enter Tryz.func92,Tryz.ntmps92
  go_wp2_with fail
  go_ret
  exact ⟨rfl,rfl⟩
def DeepX (f:Nat):Prop:=∀ (x:PX) (cs:List Value) (W:World),XAt f W x cs → goodXB f x = true → Calls Tryz.prog 57 #[.agg cs.toArray] W fun e w'=>e = .returned (.int .i64 (deepXN f x:Nat)) ∧ Below W.heap.size W w'
def deepI (d:PX → Nat) (ss:List PS) (i:Nat):Nat:=maxN ((ss.take i).map fun s=>maxN (s.wher.map fun x=>d x + 1))
def deepJ (d:PX → Nat) (l:List PX) (j:Nat):Nat:=maxN ((l.take j).map fun x=>d x + 1)
theorem deepI_succ (d:PX → Nat) (ss:List PS) (i:Nat) (h:i < ss.length):deepI d ss (i + 1) = max (deepI d ss i) (deepJ d ss[i].wher ss[i].wher.length):=by
 unfold deepI deepJ
 rw [List.take_succ_eq_append_getElem h,List.map_append,List.map_cons,List.map_nil,maxN_snoc,List.take_length]
theorem deepJ_succ (d:PX → Nat) (l:List PX) (j:Nat) (h:j < l.length):deepJ d l (j + 1) = max (deepJ d l j) (d l[j] + 1):=by
 unfold deepJ
 rw [List.take_succ_eq_append_getElem h,List.map_append,List.map_cons,List.map_nil,maxN_snoc]
theorem deepI_all (d:PX → Nat) (ss:List PS):deepI d ss ss.length = deepPN d ss:=by unfold deepI deepPN;rw [List.take_length]
theorem deepJ_le {f:Nat} (l:List PX) (j:Nat):deepJ (deepXN f) l j ≤ 2 * f + 1:=by
 refine maxN_le fun n hn=>?_
 obtain ⟨x,_,rfl⟩:=List.mem_map.1 hn
 have:=deepXN_le f x;omega
theorem deepI_le {f:Nat} (ss:List PS) (i:Nat):deepI (deepXN f) ss i ≤ 2 * f + 1:=by
 refine maxN_le fun n hn=>?_
 obtain ⟨s,_,rfl⟩:=List.mem_map.1 hn
 have:=deepJ_le (f:=f) s.wher s.wher.length
 unfold deepJ at this
 rw [List.take_length] at this
 exact this
theorem goodPB_at {g:PX → Bool} {ss:List PS} (h:goodPB g ss = true) (i:Nat) (hi:i < ss.length):goodSB g ss[i] = true:=by
 unfold goodPB at h
 rw [Bool.and_eq_true] at h
 exact List.all_eq_true.1 h.2 _ (List.getElem_mem hi)
theorem goodSB_at {g:PX → Bool} {s:PS} (h:goodSB g s = true) (j:Nat) (hj:j < s.wher.length):g s.wher[j] = true:=by
 unfold goodSB at h
 rw [Bool.and_eq_true] at h
 exact List.all_eq_true.1 h.2 _ (List.getElem_mem hj)
set_option maxRecDepth 100000 in
set_option maxHeartbeats 4000000 in
theorem deepPath_any {f:Nat} (DX:DeepX f) (hf:f ≤ 1048576) (a:Option Addr) (c:Nat) (ss:List PS) (w:World) (h:SsAt f w a ss) (hn:ss.length ≤ 1048576) (hg:goodPB (goodXB f) ss = true) :
  Calls Tryz.prog 32 #[.agg #[.slice a ss.length c]] w fun e w'=>e = .returned (.int .i64 (deepPN (deepXN f) ss:Nat)) ∧ Below w.heap.size w w':=by
 have HS:=Lib.hid h
 have HG:=Lib.hid hg
 have HB0:Hid (∀ o,Below w.heap.size w (w.alloc o)):=Lib.hid fun o=>(Below.refl _ _).alloc (Nat.le_refl _) o
 have HALL:=Lib.hid (deepI_all (deepXN f) ss)
 clear h hg
 obtain ⟨m,hm⟩:∃ m,ss.length = m:=⟨_,rfl⟩
 rw [hm] at hn ⊢
 have HM:=Lib.hid hm
 clear hm
 obtain ⟨R,hR⟩:∃ R,deepPN (deepXN f) ss = R:=⟨_,rfl⟩
 rw [hR]
 have HR:=Lib.hid hR
 clear hR
 go_enter Tryz.func32,Tryz.ntmps32
 go_wp2_with fail
 go_loopw [3,11] (fun nv iv wr=>∃ i n:Nat,iv = .int .i64 i ∧ nv = .int .i64 n ∧ i ≤ m ∧ Hid (n = deepI (deepXN f) ss i ∧ Below w.heap.size w wr)) (fun _ iv _=>m - (intOf iv).toNat)
 case atStart=>exact ⟨0,0,rfl,rfl,Nat.zero_le _,Lib.hid ⟨rfl,HB0.out _⟩⟩
 case round =>
  obtain ⟨i,n,rfl,rfl,him,HQ⟩:=hrel
  obtain ⟨w11,rfl⟩:∃ w11,w11 = wr:=⟨_,rfl⟩
  by_cases hlt:i < m
  ·have hil:i < ss.length:=by rw [HM.out];exact hlt
   obtain ⟨b,o,wa,wc,rfl,hb,hst,hcs⟩:=HS.out.get' i hil
   obtain ⟨k0,k1,k2,k3⟩:=hcs w11 HQ.out.2
   obtain ⟨wa',wc',hcs',_,_,_,_,hwl,hrow⟩:=hst
   have hwa:wa' = wa:=by have h3:=congrArg (fun l=>l[3]?) hcs';simp [stepC] at h3;exact h3.1.symm
   subst hwa
   have HSUC:Hid (deepI (deepXN f) ss (i + 1) = max (deepI (deepXN f) ss i) (deepJ (deepXN f) ss[i].wher ss[i].wher.length)):=Lib.hid (deepI_succ _ ss i hil)
   have HGW:Hid (∀ x ∈ ss[i].wher,goodXB f x = true):=Lib.hid fun x hx=>by
    obtain ⟨j,hj,rfl⟩:=List.getElem_of_mem hx
    exact goodSB_at (goodPB_at HG.out i hil) j hj
   have HROW:Hid (XsAt f w wa' ss[i].wher):=Lib.hid hrow
   clear hcs hcs' hrow hb
   have i1:(0:Int) ≤ (i:Int):=by omega
   have i2:(i:Int) < (m:Int):=by omega
   have ew:IntKind.i64.wrap ((i:Int) + 1) = (i:Int) + 1:=IntWalk.i64_in _ (by omega)
   generalize ss[i] = s at *
   generalize s.wher = wl at *
   have HBA:Hid (∀ o,Below w.heap.size w (w11.alloc o)):=Lib.hid fun o=>HQ.out.2.alloc HQ.out.2.size o
   generalize hq:wl.length = q at *
   have HQQ:=Lib.hid hq
   clear hq
   have hnb:n ≤ 2 * f + 1:=by rw [HQ.out.1];exact deepI_le ss i
   have HB12:=Lib.hid (HBA.out (.cells #[.int .i64 s.axis,.int .i64 s.test,.string (strL s.name),.slice wa' q wc] 76))
   clear HBA
   go_wp2_with fail
   generalize w11.alloc (.cells #[.int .i64 s.axis,.int .i64 s.test,.string (strL s.name),.slice wa' q wc] 76) = w12 at *
   go_loopw [3,18] (fun nv jv wr=>∃ j n2:Nat,jv = .int .i64 j ∧ nv = .int .i64 n2 ∧ j ≤ q ∧ n2 ≤ 2 * f + 1 ∧ Hid (n2 = max n (deepJ (deepXN f) wl j) ∧ Below w.heap.size w wr)) (fun _ jv _=>q - (intOf jv).toNat)
   case atStart=>exact ⟨0,n,rfl,rfl,Nat.zero_le _,hnb,Lib.hid ⟨(Nat.max_eq_left (Nat.zero_le _)).symm,HB12.out⟩⟩
   case round =>
    obtain ⟨j,n2,rfl,rfl,hjq,hn2,HJ⟩:=hrel
    obtain ⟨w13,rfl⟩:∃ w13,w13 = wr:=⟨_,rfl⟩
    by_cases hjl:j < q
    ·have hjw:j < wl.length:=by rw [HQQ.out];exact hjl
     obtain ⟨b2,o2,aa,ac,pa,pc,rfl,hb2,hx,hcs⟩:=HROW.out.get' j hjw
     obtain ⟨x0,x1,x2,x3,x4,x5,x6⟩:=hcs w13 HJ.out.2
     have HSU2:Hid (deepJ (deepXN f) wl (j + 1) = max (deepJ (deepXN f) wl j) (deepXN f wl[j] + 1)):=Lib.hid (deepJ_succ _ wl j hjw)
     have hlj:=deepJ_le (f:=f) wl (j + 1)
     have HBA:Hid (∀ o,Below w.heap.size w (w13.alloc o)):=Lib.hid fun o=>HJ.out.2.alloc HJ.out.2.size o
     have HDX:Hid (∀ W,Below w.heap.size w W → Calls Tryz.prog 57 #[.agg (exprC wl[j] aa ac pa pc).toArray] W fun e w'=>e = .returned (.int .i64 (deepXN f wl[j]:Nat)) ∧ Below W.heap.size W w'):=Lib.hid fun W hW =>
      DX wl[j] _ W (XAt.turn hW (Nat.le_refl _) hx) (HGW.out _ (List.getElem_mem hjw))
     rw [HSU2.out] at hlj
     clear hcs hx hb2
     generalize wl[j] = x at *
     have hdx:=deepXN_le f x
     generalize deepXN f x = dx at *
     generalize hdj:deepJ (deepXN f) wl j = dj at *
     unfold exprC at HDX
     have i3:(0:Int) ≤ (j:Int):=by omega
     have i4:(j:Int) < (q:Int):=by omega
     have ewj:IntKind.i64.wrap ((j:Int) + 1) = (j:Int) + 1:=IntWalk.i64_in _ (by omega)
     have ewd:IntKind.i64.wrap (1 + (dx:Int)) = 1 + (dx:Int):=IntWalk.i64_in _ (by omega)
     have HB14:=Lib.hid (HBA.out (.cells #[.int .i64 x.op,.slice aa x.args.length ac,.slice pa x.path.length pc,.string (strL x.attr),.int .i64 x.cmp,.string (strL x.text),.int .i64 x.num] 42))
     clear HBA
     go_wp2_with fail
     generalize w13.alloc (.cells #[.int .i64 x.op,.slice aa x.args.length ac,.slice pa x.path.length pc,.string (strL x.attr),.int .i64 x.cmp,.string (strL x.text),.int .i64 x.num] 42) = w14 at *
     (with_reducible refine (HDX.out _ HB14.out).mono ?_)
     rintro e w15 ⟨rfl,hb15⟩
     have HB15:=Lib.hid (HB14.out.trans (hb15.mono HB14.out.size))
     clear hb15
     have emax:max (n2:Int) (1 + (dx:Int)) = ((max n2 (dx + 1):Nat):Int):=by omega
     go_wp2_with fail
     go_roundw
     case rel=>exact ⟨j + 1,max n2 (dx + 1),by go_num,rfl,by omega,by omega,Lib.hid ⟨by rw [HSU2.out,HJ.out.1];omega,HB15.out⟩⟩
     case measure=>simp [intOf];omega
    ·have i4:(q:Int) ≤ (j:Int):=by omega
     have HFI:Hid (n2 = deepI (deepXN f) ss (i + 1)):=Lib.hid (by rw [HSUC.out,← HQ.out.1,HJ.out.1,show j = q by omega])
     go_wp2_with fail
     go_roundw
     case rel=>exact ⟨i + 1,n2,by go_num,rfl,by omega,Lib.hid ⟨HFI.out,HJ.out.2⟩⟩
     case measure=>simp [intOf];omega
  ·go_wp2_with fail
   go_ret
   exact ⟨ret_int (by rw [HQ.out.1,← HR.out,← HALL.out,HM.out,show i = m by omega]),HQ.out.2⟩
def deepA' (f:Nat) (op:Int) (l:List PX) (j:Nat):Nat:=maxN ((l.take j).map fun y=>deepXN f y + (if brackB op y.op then 1 else 0))
theorem deepA_succ (f:Nat) (op:Int) (l:List PX) (j:Nat) (h:j < l.length):deepA' f op l (j + 1) = max (deepA' f op l j) (deepXN f l[j] + (if brackB op l[j].op then 1 else 0)):=by
 unfold deepA'
 rw [List.take_succ_eq_append_getElem h,List.map_append,List.map_cons,List.map_nil,maxN_snoc]
theorem deepA_le (f:Nat) (op:Int) (l:List PX) (j:Nat):deepA' f op l j ≤ 2 * f + 1:=by
 refine maxN_le fun n hn=>?_
 obtain ⟨x,_,rfl⟩:=List.mem_map.1 hn
 have:=deepXN_le f x
 split <;> omega
theorem goodXB_args {f:Nat} {x:PX} (h:goodXB (f + 1) x = true) (hop:x.op ≠ 3):(x.op = 0 ∨ x.op = 1 ∨ (x.op = 2 ∧ x.args.length = 1)) ∧ ∀ y ∈ x.args,goodXB f y = true:=by
 unfold goodXB at h
 rw [if_neg hop,Bool.and_eq_true,Bool.and_eq_true] at h
 refine ⟨?_,List.all_eq_true.1 h.2⟩
 have h1:=h.1.2
 by_cases o1:x.op = 0 ∨ x.op = 1
 ·rcases o1 with o | o
  ·exact .inl o
  ·exact .inr (.inl o)
 ·rw [if_neg o1] at h1
  by_cases o2:x.op = 2
  ·rw [if_pos o2] at h1
   exact .inr (.inr ⟨o2,by simpa using h1⟩)
  ·rw [if_neg o2] at h1;cases h1
theorem goodXB_path {f:Nat} {x:PX} (h:goodXB (f + 1) x = true) (hop:x.op = 3):goodPB (goodXB f) x.path = true:=by
 unfold goodXB at h
 rw [if_pos hop] at h
 simp only [Bool.and_eq_true] at h
 exact h.1.1.2
set_option maxRecDepth 100000 in
set_option maxHeartbeats 4000000 in
theorem deepSome_any {f:Nat} (DX:DeepX f) (hf:f ≤ 1048576) (x:PX) (cs:List Value) (w:World) (h:XAt (f + 1) w x cs) (hg:goodXB (f + 1) x = true) (hop:x.op = 3) :
  Calls Tryz.prog 57 #[.agg cs.toArray] w fun e w'=>e = .returned (.int .i64 (deepXN (f + 1) x:Nat)) ∧ Below w.heap.size w w':=by
 obtain ⟨aa,ac,pa,pc,rfl,hal,hpl,_,_,_,hatl,htxl,hargl,hpathl,hargs,hpath⟩:=h
 have hb0:=(Below.refl w.heap.size w).alloc (Nat.le_refl _) (.cells (exprC x aa ac pa pc).toArray 42)
 have HB0:=Lib.hid hb0
 have HDP:Hid (Calls Tryz.prog 32 #[.agg #[.slice pa x.path.length pc]] (w.alloc (.cells (exprC x aa ac pa pc).toArray 42)) fun e w'=>e = .returned (.int .i64 (deepPN (deepXN f) x.path:Nat)) ∧ Below (w.alloc (.cells (exprC x aa ac pa pc).toArray 42)).heap.size (w.alloc (.cells (exprC x aa ac pa pc).toArray 42)) w') :=
  Lib.hid (deepPath_any DX hf pa pc x.path _ (SsAt.below hpath hb0) hpathl (goodXB_path hg hop))
 have hb0s:(w.alloc (.cells (exprC x aa ac pa pc).toArray 42)).heap.size = w.heap.size + 1:=by simp
 have HCL:Hid (∀ W,Below (w.alloc (.cells (exprC x aa ac pa pc).toArray 42)).heap.size (w.alloc (.cells (exprC x aa ac pa pc).toArray 42)) W → W.cell? ⟨w.heap.size,4,none⟩ = some (.int .i64 x.cmp)):=Lib.hid fun W hW=>by
  refine (hW.cell (p:=⟨w.heap.size,4,none⟩) (by rw [hb0s];exact Nat.lt_succ_self _)).trans ?_
  rw [cell_heap (heap_alloc_new w _)];rfl
 have hdl:deepPN (deepXN f) x.path ≤ 2 * f + 1:=by rw [← deepI_all];exact deepI_le ..
 obtain ⟨R,hR⟩:∃ R,deepXN (f + 1) x = R:=⟨_,rfl⟩
 rw [hR]
 have HR:Hid (deepPN (deepXN f) x.path + (if 3 ≤ x.cmp then 1 else 0) = R):=Lib.hid (by rw [← hR];unfold deepXN;rw [if_pos hop])
 clear hb0 hargs hpath hR hb0s hatl htxl hg
 unfold exprC at *
 rw [hop] at *
 clear hop
 generalize deepPN (deepXN f) x.path = d at *
 generalize x.args.length = n at *
 generalize x.path.length = m at *
 generalize strL x.attr = at3 at *
 generalize x.cmp = cm at *
 generalize strL x.text = tx at *
 generalize x.num = nu at *
 go_enter Tryz.func57,Tryz.ntmps57
 go_wp2_with fail
 (with_reducible refine HDP.out.mono ?_)
 rintro e w2 ⟨rfl,hb2⟩
 have HB2:=Lib.hid (HB0.out.trans (hb2.mono HB0.out.size))
 have c4:=HCL.out w2 hb2
 clear hb2 HCL HDP
 have ewd:IntKind.i64.wrap ((d:Int) + 1) = (d:Int) + 1:=IntWalk.i64_in _ (by omega)
 by_cases h3:3 ≤ cm
 ·rw [if_pos h3] at HR
  go_wp2_with fail
  go_ret
  exact ⟨ret_int (by rw [← HR.out];rfl),HB2.out⟩
 ·rw [if_neg h3] at HR
  have h3':cm < 3:=by omega
  go_wp2_with fail
  go_ret
  exact ⟨ret_int (by rw [← HR.out];rfl),HB2.out⟩
set_option maxRecDepth 100000 in
set_option maxHeartbeats 4000000 in
theorem deepNot_any {f:Nat} (DX:DeepX f) (hf:f ≤ 1048576) (x:PX) (cs:List Value) (w:World) (h:XAt (f + 1) w x cs) (hg:goodXB (f + 1) x = true) (hop:x.op = 2) :
  Calls Tryz.prog 57 #[.agg cs.toArray] w fun e w'=>e = .returned (.int .i64 (deepXN (f + 1) x:Nat)) ∧ Below w.heap.size w w':=by
 obtain ⟨aa,ac,pa,pc,rfl,hal,hpl,_,_,_,hatl,htxl,hargl,hpathl,hargs,hpath⟩:=h
 have hb0:=(Below.refl w.heap.size w).alloc (Nat.le_refl _) (.cells (exprC x aa ac pa pc).toArray 42)
 have HB0:=Lib.hid hb0
 obtain ⟨ho,hga⟩:=goodXB_args hg (by rw [hop];decide)
 have hl1:x.args.length = 1:=by omega
 obtain ⟨y,hy⟩:∃ y,x.args = [y]:=List.length_eq_one_iff.1 hl1
 have hR:deepXN (f + 1) x = deepXN f y + 1:=by
  rw [show deepXN (f + 1) x = (if x.op = 3 then deepPN (deepXN f) x.path + (if 3 ≤ x.cmp then 1 else 0) else if x.op = 2 then (match x.args with | []=>0 | y :: _=>deepXN f y + 1) else maxN (x.args.map fun y=>deepXN f y + (if brackB x.op y.op then 1 else 0))) from rfl,if_neg (by rw [hop];decide),if_pos hop,hy]
 rw [hR]
 have hx0:XsAt f w aa [y]:=hy ▸ hargs
 obtain ⟨b,o,ya,yc,yp,yd,rfl,hb,hyx,hcs⟩:=hx0.get' 0 (by simp)
 obtain ⟨k0,k1,k2,k3,k4,k5,k6⟩:=hcs _ hb0
 have HDX:Hid (Calls Tryz.prog 57 #[.agg (exprC y ya yc yp yd).toArray] (w.alloc (.cells (exprC x (some ⟨b,o,none⟩) ac pa pc).toArray 42)) fun e w'=>e = .returned (.int .i64 (deepXN f y:Nat)) ∧ Below (w.alloc (.cells (exprC x (some ⟨b,o,none⟩) ac pa pc).toArray 42)).heap.size (w.alloc (.cells (exprC x (some ⟨b,o,none⟩) ac pa pc).toArray 42)) w') :=
  Lib.hid (DX y _ _ (XAt.turn hb0 (Nat.le_refl _) hyx) (hga y (by rw [hy];exact List.mem_cons_self)))
 have hdl:=deepXN_le f y
 simp only [List.getElem_cons_zero,Nat.zero_mul,Nat.add_zero] at k0 k1 k2 k3 k4 k5 k6
 clear hb0 hargs hpath hR hatl htxl hg hga ho hcs hyx hx0 hb hy
 unfold exprC at *
 rw [hop,hl1] at *
 clear hop hl1
 generalize deepXN f y = d at *
 generalize x.path.length = m at *
 generalize strL x.attr = at3 at *
 generalize x.cmp = cm at *
 generalize strL x.text = tx at *
 generalize x.num = nu at *
 have ewd:IntKind.i64.wrap (1 + (d:Int)) = 1 + (d:Int):=IntWalk.i64_in _ (by omega)
 go_enter Tryz.func57,Tryz.ntmps57
 go_wp2_with fail
 (with_reducible refine HDX.out.mono ?_)
 rintro e w2 ⟨rfl,hb2⟩
 have HB2:=Lib.hid (HB0.out.trans (hb2.mono HB0.out.size))
 clear hb2 HDX
 go_wp2_with fail
 go_ret
 exact ⟨ret_int (by omega),HB2.out⟩
set_option maxRecDepth 100000 in
set_option maxHeartbeats 4000000 in
theorem deepList_any {f:Nat} (DX:DeepX f) (hf:f ≤ 1048576) (x:PX) (cs:List Value) (w:World) (h:XAt (f + 1) w x cs) (hg:goodXB (f + 1) x = true) (h3:x.op ≠ 3) (h2:x.op ≠ 2) :
  Calls Tryz.prog 57 #[.agg cs.toArray] w fun e w'=>e = .returned (.int .i64 (deepXN (f + 1) x:Nat)) ∧ Below w.heap.size w w':=by
 obtain ⟨aa,ac,pa,pc,rfl,hal,hpl,_,_,_,hatl,htxl,hargl,hpathl,hargs,hpath⟩:=h
 have hb0:=(Below.refl w.heap.size w).alloc (Nat.le_refl _) (.cells (exprC x aa ac pa pc).toArray 42)
 have hb0s:(w.alloc (.cells (exprC x aa ac pa pc).toArray 42)).heap.size = w.heap.size + 1:=by simp
 have HB0:=Lib.hid hb0
 obtain ⟨_,hga⟩:=goodXB_args hg h3
 obtain ⟨R,hR⟩:∃ R,deepXN (f + 1) x = R:=⟨_,rfl⟩
 rw [hR]
 have HR:Hid (deepA' f x.op x.args x.args.length = R):=Lib.hid (by
  rw [← hR]
  unfold deepXN deepA'
  rw [if_neg h3,if_neg h2,List.take_length])
 have HGA:=Lib.hid hga
 have HROW:Hid (XsAt f w aa x.args):=Lib.hid hargs
 have HCL:Hid (∀ W,Below (w.heap.size + 1) (w.alloc (.cells (exprC x aa ac pa pc).toArray 42)) W → W.cell? ⟨w.heap.size,0,none⟩ = some (.int .i64 x.op)):=Lib.hid fun W hW=>by
  refine (hW.cell (p:=⟨w.heap.size,0,none⟩) (Nat.lt_succ_self _)).trans ?_
  rw [cell_heap (heap_alloc_new w _)];rfl
 have HBB:Hid (Below (w.heap.size + 1) (w.alloc (.cells (exprC x aa ac pa pc).toArray 42)) (w.alloc (.cells (exprC x aa ac pa pc).toArray 42))):=Lib.hid (Below.refl _ _)
 have HSZ:Hid (w.heap.size + 1 ≤ (w.alloc (.cells (exprC x aa ac pa pc).toArray 42)).heap.size):=Lib.hid (by rw [hb0s];exact Nat.le_refl _)
 have t3:((x.op:Int) == 3) = false:=by simpa using h3
 have t2:((x.op:Int) == 2) = false:=by simpa using h2
 clear hb0 hargs hpath hR hb0s hatl htxl hg hga h3 h2
 unfold exprC at *
 generalize x.args = l at *
 generalize x.path.length = m at *
 generalize strL x.attr = at3 at *
 generalize x.cmp = cm at *
 generalize strL x.text = tx at *
 generalize x.num = nu at *
 generalize x.op = op at *
 generalize hq:l.length = q at *
 have HQQ:=Lib.hid hq
 clear hq
 go_enter Tryz.func57,Tryz.ntmps57
 go_wp2_with fail
 generalize w.alloc (.cells #[.int .i64 op,.slice aa q ac,.slice pa m pc,.string at3,.int .i64 cm,.string tx,.int .i64 nu] 42) = w0 at *
 go_loopw [4,32] (fun nv jv wr=>∃ j n2:Nat,jv = .int .i64 j ∧ nv = .int .i64 n2 ∧ j ≤ q ∧ n2 ≤ 2 * f + 1 ∧ Hid (n2 = deepA' f op l j ∧ Below w.heap.size w wr ∧ Below (w.heap.size + 1) w0 wr ∧ w.heap.size + 1 ≤ wr.heap.size)) (fun _ jv _=>q - (intOf jv).toNat)
 case atStart=>exact ⟨0,0,rfl,rfl,Nat.zero_le _,Nat.zero_le _,Lib.hid ⟨rfl,HB0.out,HBB.out,HSZ.out⟩⟩
 case round =>
  obtain ⟨j,n2,rfl,rfl,hjq,hn2,HJ⟩:=hrel
  obtain ⟨w13,rfl⟩:∃ w13,w13 = wr:=⟨_,rfl⟩
  by_cases hjl:j < q
  ·have hjw:j < l.length:=by rw [HQQ.out];exact hjl
   obtain ⟨b2,o2,ya,yc,yp,yd,rfl,hb2,hx,hcs⟩:=HROW.out.get' j hjw
   obtain ⟨x0,x1,x2,x3,x4,x5,x6⟩:=hcs w13 HJ.out.2.1
   have HSU2:Hid (deepA' f op l (j + 1) = max (deepA' f op l j) (deepXN f l[j] + (if brackB op l[j].op then 1 else 0))):=Lib.hid (deepA_succ f op l j hjw)
   have hlj:=deepA_le f op l (j + 1)
   have HDX:Hid (∀ W,Below w.heap.size w W → Calls Tryz.prog 57 #[.agg (exprC l[j] ya yc yp yd).toArray] W fun e w'=>e = .returned (.int .i64 (deepXN f l[j]:Nat)) ∧ Below W.heap.size W w'):=Lib.hid fun W hW =>
    DX l[j] _ W (XAt.turn hW (Nat.le_refl _) hx) (HGA.out _ (List.getElem_mem hjw))
   rw [HSU2.out] at hlj
   clear hcs hx hb2
   generalize l[j] = y at *
   have hdx:=deepXN_le f y
   generalize deepXN f y = dx at *
   generalize hdj:deepA' f op l j = dj at *
   have HBK:=Lib.hid fun W=>brack_any op y.op W
   unfold exprC at HDX
   have i3:(0:Int) ≤ (j:Int):=by omega
   have i4:(j:Int) < (q:Int):=by omega
   have ewj:IntKind.i64.wrap ((j:Int) + 1) = (j:Int) + 1:=IntWalk.i64_in _ (by omega)
   have ewd:IntKind.i64.wrap ((dx:Int) + 1) = (dx:Int) + 1:=IntWalk.i64_in _ (by omega)
   generalize hob:Obj.cells #[.int .i64 y.op,.slice ya y.args.length yc,.slice yp y.path.length yd,.string (strL y.attr),.int .i64 y.cmp,.string (strL y.text),.int .i64 y.num] 42 = ob
   have HB14:Hid (Below w.heap.size w (w13.alloc ob) ∧ Below (w.heap.size + 1) w0 (w13.alloc ob)):=Lib.hid ⟨HJ.out.2.1.alloc HJ.out.2.1.size _,HJ.out.2.2.1.alloc HJ.out.2.2.2 _⟩
   have HBX:Hid (w13.heap.size < (w13.alloc ob).heap.size ∧ (w13.alloc ob).heap[w13.heap.size]? = some ob):=Lib.hid ⟨by simp,heap_alloc_new w13 _⟩
   subst hob
   go_wp2_with fail
   generalize hP:w13.heap.size = P at *
   generalize w13.alloc (.cells #[.int .i64 y.op,.slice ya y.args.length yc,.slice yp y.path.length yd,.string (strL y.attr),.int .i64 y.cmp,.string (strL y.text),.int .i64 y.num] 42) = w14 at *
   (with_reducible refine (HDX.out _ HB14.out.1).mono ?_)
   rintro e w15 ⟨rfl,hb15⟩
   have HB15:Hid (Below w.heap.size w w15 ∧ Below (w.heap.size + 1) w0 w15 ∧ w.heap.size + 1 ≤ w15.heap.size):=Lib.hid ⟨HB14.out.1.trans (hb15.mono HB14.out.1.size),HB14.out.2.trans (hb15.mono (by have:=HBX.out.1;have:=HJ.out.2.2.2;omega)),by have:=HBX.out.1;have:=HJ.out.2.2.2;have:=hb15.size;omega⟩
   have c0:=HCL.out w15 HB15.out.2.1
   have y0:w15.cell? ⟨P,0,none⟩ = some (.int .i64 y.op):=by
    rw [hb15.cell (p:=⟨P,0,none⟩) HBX.out.1,cell_heap HBX.out.2];rfl
   clear hb15
   go_wp2_with fail
   (with_reducible refine (HBK.out _).mono ?_)
   rintro e w16 ⟨rfl,rfl⟩
   cases hbk:brackB op y.op with
   | true =>
    rw [if_pos hbk] at HSU2 hlj
    have emax:max (n2:Int) ((dx:Int) + 1) = ((max n2 (dx + 1):Nat):Int):=by omega
    clear hbk
    go_wp2_with fail
    go_roundw
    case rel=>exact ⟨j + 1,max n2 (dx + 1),by go_num,rfl,by omega,by have:=HJ.out.1;omega,Lib.hid ⟨by rw [HSU2.out,HJ.out.1],HB15.out⟩⟩
    case measure=>simp [intOf];omega
   | false =>
    rw [if_neg (by rw [hbk];decide)] at HSU2 hlj
    have emax:max (n2:Int) (dx:Int) = ((max n2 dx:Nat):Int):=by omega
    clear hbk
    go_wp2_with fail
    go_roundw
    case rel=>exact ⟨j + 1,max n2 dx,by go_num,rfl,by omega,by have:=HJ.out.1;omega,Lib.hid ⟨by rw [HSU2.out,HJ.out.1,Nat.add_zero],HB15.out⟩⟩
    case measure=>simp [intOf];omega
  ·have i4:(q:Int) ≤ (j:Int):=by omega
   go_wp2_with fail
   go_ret
   exact ⟨ret_int (by rw [HJ.out.1,← HR.out,show j = q by omega]),HJ.out.2.1⟩
theorem deepX_all:∀ f,f ≤ 1048576 → DeepX f
 | 0,_=>fun _ _ _ h _=>h.elim
 | f + 1,hf=>fun x cs W h hg=>by
  by_cases h3:x.op = 3
  ·exact deepSome_any (deepX_all f (by omega)) (by omega) x cs W h hg h3
  by_cases h2:x.op = 2
  ·exact deepNot_any (deepX_all f (by omega)) (by omega) x cs W h hg h2
  ·exact deepList_any (deepX_all f (by omega)) (by omega) x cs W h hg h3 h2
end Go.Proofs.YtgjokdngbocehaaGreatDoor
namespace Go.Proofs.YtgjokdngbocehaaGreatDoor
open Go.RowKit
section
variable {L:Nat} {f:Nat → Nat} {p:Nat → Int}
theorem par_ge (h:AxF L f p) (k:Nat) (hk:k < L):∀ m,k < m → m ≤ f k → (k:Int) ≤ p m:=by
 intro m
 induction m using Nat.strongRecOn with
 | _ m ih =>
  intro hkm hmf
  have hmL:m < L:=by have:=h.rng k hk;omega
  have key:∀ j,k < j → j < m → f j + 1 = m → (k:Int) ≤ p m:=by
   intro j
   induction j using Nat.strongRecOn with
   | _ j ihj =>
    intro hkj hjm hfj
    have hpj:=ih j hjm hkj (by omega)
    have hjL:j < L:=by omega
    have hplt:=(h.plt j hjL).2
    have hins:=h.ins j hjL
    by_cases hs:f j + 1 < hiP L f (p j)
    ·have:=h.sib j hjL hs
     rw [hfj] at this
     omega
    ·obtain ⟨q,hq⟩:∃ q:Nat,p j = (q:Int):=⟨(p j).toNat,by omega⟩
     have hhi:hiP L f (p j) = f q + 1:=by rw [hq];unfold hiP;rw [if_neg (by omega),Int.toNat_natCast]
     rw [hhi] at hs hins
     by_cases hqk:q = k
     ·subst hqk;omega
     ·exact ihj q (by omega) (by omega) (by omega) (by omega)
  by_cases h1:m = k + 1
  ·subst h1
   rw [h.first k hk hmf]
   omega
  ·have hm1:m - 1 < L:=by omega
   have hr:=h.rng (m - 1) hm1
   by_cases h2:m ≤ f (m - 1)
   ·have:=h.first (m - 1) hm1 (by omega)
    rw [show m - 1 + 1 = m by omega] at this
    rw [this];omega
   ·exact key (m - 1) (by omega) (by omega) (by omega)
end
end Go.Proofs.YtgjokdngbocehaaGreatDoor
namespace Go.Proofs.YtgjokdngbocehaaGreatDoor
open Go.RowKit
def lastR (rs:List RN) (i:Nat):Nat:=(rs[i]?.map fun r=>r.last.toNat).getD 0
def parR (rs:List RN) (i:Nat):Int:=(rs[i]?.map fun r=>r.par).getD (-1)
theorem rn_at {evs:List Ev} {t:BegS} (ht:begAll beg0 evs = some t) (i:Nat) (hi:i < (rnAll beg0 [] evs).length):∃ (x:Nd) (r:RN),(nodesB evs)[i]? = some x ∧ (rnAll beg0 [] evs)[i]? = some r ∧ r.par = x.par ∧ parR (rnAll beg0 [] evs) i = x.par ∧
  ((lastR (rnAll beg0 [] evs) i:Nat):Int) = r.last ∧ (isOpn t i → lastR (rnAll beg0 [] evs) i = (nodesB evs).length - 1) ∧ (¬ isOpn t i → ((lastR (rnAll beg0 [] evs) i:Nat):Int) = x.last):=by
 have hs:=rnAll_spec ht
 have hl:=hs.len
 have hx:(nodesB evs)[i]? = some (nodesB evs)[i]:=List.getElem?_eq_getElem (by omega)
 obtain ⟨r,h1,_,h3,h4,h5⟩:=hs.at' i _ hx
 have hr:=lastN_rng ht i (by omega)
 have hla:=lastN_at ht hx
 have e1:lastR (rnAll beg0 [] evs) i = r.last.toNat:=by unfold lastR;rw [h1];rfl
 have e2:parR (rnAll beg0 [] evs) i = r.par:=by unfold parR;rw [h1];rfl
 refine ⟨_,r,hx,h1,h3,by rw [e2,h3],?_,fun ho=>?_,fun ho=>?_⟩
 ·by_cases ho:isOpn t i
  ·have:=(h4 ho).1;omega
  ·have:=(h5 ho).1;omega
 ·have:=(h4 ho).1;omega
 ·have:=(h5 ho).1;omega
theorem axR_of {evs:List Ev} {t:BegS} (ht:begAll beg0 evs = some t):AxF (rnAll beg0 [] evs).length (lastR (rnAll beg0 [] evs)) (parR (rnAll beg0 [] evs)):=by
 have hs:=rnAll_spec ht
 have hl:=hs.len
 have hx:=nodesB_ax ht
 have hlr:=lastN_rng ht
 have hat:=rn_at ht
 generalize rnAll beg0 [] evs = rs at *
 have hr:∀ i,i < rs.length → i ≤ lastR rs i ∧ lastR rs i < rs.length:=by
  intro i hi
  obtain ⟨x,r,h1,_,_,_,_,h5,h6⟩:=hat i hi
  by_cases ho:isOpn t i
  ·have:=h5 ho;omega
  ·have h7:=h6 ho
   have h8:=lastN_at ht h1
   have h9:=hlr i (by omega)
   omega
 refine ⟨hr,?_,?_,?_,?_,?_⟩
 ·intro h0
  obtain ⟨x,r,h1,_,_,h4,_⟩:=hat 0 h0
  rw [h4];exact hx.root x h1
 ·intro k hk
  obtain ⟨x,r,h1,_,_,h4,_⟩:=hat k hk
  rw [h4];exact hx.plt k x h1
 ·intro i hi h1
  obtain ⟨x,r,g1,_,_,_,_,g5,g6⟩:=hat i hi
  obtain ⟨y,r',k1,_,_,k4,_⟩:=hat (i + 1) (by have:=hr i hi;omega)
  rw [k4]
  by_cases ho:isOpn t i
  ·exact hx.first i x y g1 k1 (.inl ho)
  ·have:=g6 ho
   exact hx.first i x y g1 k1 (.inr (by omega))
 ·intro k hk h1
  obtain ⟨x,r,g1,_,_,g4,_,g5,g6⟩:=hat k hk
  have hpk:=hx.plt k x g1
  unfold hiP at h1
  have h2:lastR rs k + 1 < rs.length:=by
   split at h1
   ·exact h1
   ·have:=hr (parR rs k).toNat (by rw [g4];omega);omega
  have hno:¬ isOpn t k:=fun ho=>by have:=g5 ho;omega
  have h3:=g6 hno
  obtain ⟨y,r',k1,_,_,k4,_⟩:=hat _ h2
  rw [k4,g4]
  refine hx.sib k x y g1 hno (by rw [← h3,show ((lastR rs k:Nat):Int) + 1 = ((lastR rs k + 1:Nat):Int) by omega,Int.toNat_natCast];exact k1) ?_
  by_cases hneg:x.par = -1
  ·exact .inl hneg
  ·obtain ⟨p,r'',p1,_,_,_,_,p5,p6⟩:=hat x.par.toNat (by omega)
   by_cases hop:isOpn t x.par
   ·exact .inr (.inl hop)
   ·have hc:((x.par.toNat:Nat):Int) = x.par:=by omega
    have:=p6 (by rw [hc];exact hop)
    rw [g4,if_neg (by omega)] at h1
    exact .inr (.inr ⟨p,p1,by omega⟩)
 ·intro k hk
  obtain ⟨x,r,g1,_,_,g4,_,g5,g6⟩:=hat k hk
  have hpk:=hx.plt k x g1
  unfold hiP
  split
  ·exact (hr k hk).2
  ·rename_i h1
   rw [g4] at h1 ⊢
   have hc:((x.par.toNat:Nat):Int) = x.par:=by omega
   obtain ⟨p,r'',p1,_,_,_,_,p5,p6⟩:=hat x.par.toNat (by omega)
   by_cases ho:isOpn t k
   ·have hpo:isOpn t x.par:=by
     obtain ⟨o,ho1,ho2⟩:=ho
     obtain ⟨u,v,huv⟩:=List.append_of_mem ho1
     obtain ⟨x',hx1,hx2⟩:=hx.par o v ⟨u,huv.symm⟩
     have:o.1.toNat = k:=by omega
     rw [this,g1] at hx1
     cases hx1
     unfold topOf at hx2
     cases hv:v with
     | nil=>rw [hv] at hx2;simp at hx2;omega
     | cons a v' =>
      rw [hv] at hx2
      simp at hx2
      exact ⟨a,by rw [huv,hv];simp,hx2.symm⟩
    have h7:=p5 (by rw [hc];exact hpo)
    have h8:=g5 ho
    omega
   ·have h3:=g6 ho
    obtain ⟨p',hp',hcl⟩:=hx.ins k x g1 ho (by omega)
    rw [p1] at hp'
    cases hp'
    by_cases hop:isOpn t x.par
    ·have h7:=p5 (by rw [hc];exact hop)
     have h8:=hr k hk
     omega
    ·have h7:=p6 (by rw [hc];exact hop)
     rcases hcl with hcl | hcl
     ·exact absurd hcl hop
     ·omega
section
variable {L:Nat} {f:Nat → Nat} {p:Nat → Int}
theorem ax_child (h:AxF L f p) (k m:Nat) (hk:k < L) (hp:p k = (m:Int)):m < k ∧ k ≤ f m:=by
 have h1:=h.plt k hk
 have h2:=h.ins k hk
 have h3:=h.rng k hk
 unfold hiP at h2
 rw [hp,if_neg (by omega),Int.toNat_natCast] at h2
 omega
theorem ax_nest (h:AxF L f p) (m:Nat) (hm:m < L):∀ j,m < j → j ≤ f m → f j ≤ f m:=by
 intro j
 induction j using Nat.strongRecOn with
 | _ j ih =>
  intro h1 h2
  have hf:=h.rng m hm
  have hjL:j < L:=by omega
  have hg:=par_ge h m hm j h1 h2
  have hpl:=h.plt j hjL
  have hi:=h.ins j hjL
  unfold hiP at hi
  rw [if_neg (by omega)] at hi
  by_cases e:p j = (m:Int)
  ·rw [e,Int.toNat_natCast] at hi;omega
  ·have:=ih (p j).toNat (by omega) (by omega) (by omega)
   omega
end
theorem orL2_le {a b c:Int} (ha:T3 a) (hb:T3 b):orL [a,b] ≤ c ↔ a ≤ c ∧ b ≤ c:=by rw [orL_two ha hb];omega
theorem orL3_le {a b d c:Int} (ha:T3 a) (hb:T3 b) (hd:T3 d):orL [a,b,d] ≤ c ↔ a ≤ c ∧ b ≤ c ∧ d ≤ c:=by
 have:orL [a,b,d] = max a (max b d):=by
  unfold orL
  simp only [List.foldl_cons,List.foldl_nil,seenI_of ha,seenI_of hb,seenI_of hd]
  unfold T3 at *;omega
 rw [this];omega
def parH (hs:List HN) (k:Nat):Nat:=((hs[k]?.map fun (h:HN)=>h.par).getD 0).toNat
def opI (hs:List HN) (k:Nat):Int:=if (hs[k]?.map fun (h:HN)=>h.op).getD false then 1 else 0
theorem opI_3 (hs:List HN) (k:Nat):T3 (opI hs k):=by unfold opI T3;split <;> decide
theorem cd_step (hs:List HN) (he:List Int) (k:Nat) (h:k < hs.length):cdAll hs he k = ((cdAll hs he (k + 1)).1.set (parH hs k) (orL [(cdAll hs he (k + 1)).1.getD (parH hs k) 0,he.getD k 0]),(cdAll hs he (k + 1)).2.set (parH hs k) (orL [(cdAll hs he (k + 1)).2.getD (parH hs k) 0,he.getD k 0,(cdAll hs he (k + 1)).2.getD k 0])):=cdAll_step hs he k h
theorem getD_set (l:List Int) (i j:Nat) (v:Int) (hi:i < l.length):(l.set i v).getD j 0 = if i = j then v else l.getD j 0:=by
 rw [List.getD_eq_getElem?_getD,List.getElem?_set]
 by_cases e:i = j
 ·subst e;simp [hi]
 ·simp [e,List.getD_eq_getElem?_getD]
theorem cd_le (hs:List HN) (he:List Int) (h3:R3 he) (hp:∀ k,1 ≤ k → k < hs.length → parH hs k < k) (c:Int):∀ d j,j + d = hs.length → 1 ≤ j → ∀ m,m < hs.length →
  (((cdAll hs he j).1.getD m 0 ≤ c ↔ opI hs m ≤ c ∧ ∀ k,j ≤ k → k < hs.length → parH hs k = m → he.getD k 0 ≤ c) ∧
   ((cdAll hs he j).2.getD m 0 ≤ c ↔ opI hs m ≤ c ∧ ∀ k,j ≤ k → k < hs.length → parH hs k = m → he.getD k 0 ≤ c ∧ (cdAll hs he (k + 1)).2.getD k 0 ≤ c)):=by
 intro d
 induction d with
 | zero =>
  intro j hj h1 m hm
  have:j = hs.length:=by omega
  subst this
  rw [cdAll_end]
  have e:(rowOf hs.length fun k=>if (hs[k]?.map fun (h:HN)=>h.op).getD false then 1 else 0).getD m 0 = opI hs m:=rowOf_getD _ _ _ hm
  simp only [e]
  exact ⟨⟨fun h=>⟨h,fun k h2 h3=>by omega⟩,fun h=>h.1⟩,⟨fun h=>⟨h,fun k h2 h3=>by omega⟩,fun h=>h.1⟩⟩
 | succ d ih =>
  intro j hj h1 m hm
  obtain ⟨i1,i2⟩:=ih (j + 1) (by omega) (by omega) m hm
  obtain ⟨q1,q2,q3,q4⟩:=cdAll_ok hs he d (j + 1) (by omega)
  have hpj:=hp j h1 (by omega)
  rw [cd_step hs he j (by omega)]
  simp only
  rw [getD_set _ _ _ _ (by omega),getD_set _ _ _ _ (by omega)]
  by_cases e:parH hs j = m
  ·rw [if_pos e,if_pos e,e,orL2_le (q1.at m) (h3.at j),orL3_le (q2.at m) (h3.at j) (q2.at j),i1,i2]
   constructor
   ·constructor
    ·rintro ⟨⟨a1,a2⟩,a3⟩
     refine ⟨a1,fun k b1 b2 b3=>?_⟩
     by_cases ek:k = j
     ·subst ek;exact a3
     ·exact a2 k (by omega) b2 b3
    ·rintro ⟨a1,a2⟩
     exact ⟨⟨a1,fun k b1 b2 b3=>a2 k (by omega) b2 b3⟩,a2 j (Nat.le_refl _) (by omega) e⟩
   ·constructor
    ·rintro ⟨⟨a1,a2⟩,a3,a4⟩
     refine ⟨a1,fun k b1 b2 b3=>?_⟩
     by_cases ek:k = j
     ·subst ek;exact ⟨a3,a4⟩
     ·exact a2 k (by omega) b2 b3
    ·rintro ⟨a1,a2⟩
     have:=a2 j (Nat.le_refl _) (by omega) e
     exact ⟨⟨a1,fun k b1 b2 b3=>a2 k (by omega) b2 b3⟩,this.1,this.2⟩
  ·rw [if_neg e,if_neg e,i1,i2]
   constructor
   ·exact ⟨fun ⟨a1,a2⟩=>⟨a1,fun k b1 b2 b3=>a2 k (by rcases Nat.eq_or_lt_of_le b1 with h | h;exact absurd (h ▸ b3) e;omega) b2 b3⟩,fun ⟨a1,a2⟩=>⟨a1,fun k b1 b2 b3=>a2 k (by omega) b2 b3⟩⟩
   ·exact ⟨fun ⟨a1,a2⟩=>⟨a1,fun k b1 b2 b3=>a2 k (by rcases Nat.eq_or_lt_of_le b1 with h | h;exact absurd (h ▸ b3) e;omega) b2 b3⟩,fun ⟨a1,a2⟩=>⟨a1,fun k b1 b2 b3=>a2 k (by omega) b2 b3⟩⟩
theorem cd_keep (hs:List HN) (he:List Int) (hp:∀ k,1 ≤ k → k < hs.length → parH hs k < k) (k:Nat) (hk:k < hs.length):∀ d j,j + d = k + 1 → 1 ≤ j → (cdAll hs he j).2.getD k 0 = (cdAll hs he (k + 1)).2.getD k 0:=by
 intro d
 induction d with
 | zero=>intro j hj _;rw [show j = k + 1 by omega]
 | succ d ih =>
  intro j hj h1
  rw [← ih (j + 1) (by omega) (by omega),cd_step hs he j (by omega)]
  have hpj:=hp j h1 (by omega)
  obtain ⟨_,_,_,q4⟩:=cdAll_ok hs he (hs.length - (j + 1)) (j + 1) (by omega)
  simp only
  rw [getD_set _ _ _ _ (by omega),if_neg (by omega)]
theorem deep_le (hs:List HN) (he:List Int) (h3:R3 he) (hp:∀ k,1 ≤ k → k < hs.length → parH hs k < k) (F:Nat → Nat)
  (hc:∀ k,1 ≤ k → k < hs.length → k ≤ F (parH hs k)) (hg:∀ m k,m < hs.length → m < k → k ≤ F m → k < hs.length ∧ m ≤ parH hs k) (hn:∀ m j,m < hs.length → m < j → j ≤ F m → F j ≤ F m)
  (ho:∀ k,1 ≤ k → k < hs.length → opI hs k ≤ opI hs (parH hs k)) (c:Int):∀ d m,m + d = hs.length → m < hs.length →
  ((cdAll hs he 1).2.getD m 0 ≤ c ↔ opI hs m ≤ c ∧ ∀ k,m < k → k ≤ F m → he.getD k 0 ≤ c):=by
 have hrec:∀ m,m < hs.length → ((cdAll hs he 1).2.getD m 0 ≤ c ↔ opI hs m ≤ c ∧ ∀ k,1 ≤ k → k < hs.length → parH hs k = m → he.getD k 0 ≤ c ∧ (cdAll hs he 1).2.getD k 0 ≤ c):=by
  intro m hm
  rw [(cd_le hs he h3 hp c (hs.length - 1) 1 (by omega) (Nat.le_refl _) m hm).2]
  constructor
  ·rintro ⟨a1,a2⟩
   exact ⟨a1,fun k b1 b2 b3=>by rw [cd_keep hs he hp k b2 k 1 (by omega) (Nat.le_refl _)];exact a2 k b1 b2 b3⟩
  ·rintro ⟨a1,a2⟩
   exact ⟨a1,fun k b1 b2 b3=>by rw [← cd_keep hs he hp k b2 k 1 (by omega) (Nat.le_refl _)];exact a2 k b1 b2 b3⟩
 have hfor:∀ m,m < hs.length → (cdAll hs he 1).2.getD m 0 ≤ c → ∀ k,m < k → k ≤ F m → he.getD k 0 ≤ c ∧ (cdAll hs he 1).2.getD k 0 ≤ c:=by
  intro m hm hd k
  induction k using Nat.strongRecOn with
  | _ k ih =>
   intro h1 h2
   obtain ⟨hkl,hge⟩:=hg m k hm h1 h2
   have hpk:=hp k (by omega) hkl
   by_cases e:parH hs k = m
   ·exact ((hrec m hm).1 hd).2 k (by omega) hkl e
   ·have hj:=ih (parH hs k) hpk (by omega) (by omega)
    exact ((hrec (parH hs k) (by omega)).1 hj.2).2 k (by omega) hkl rfl
 intro d
 induction d using Nat.strongRecOn with
 | _ d ih =>
  intro m hmd hm
  constructor
  ·intro hd
   exact ⟨((hrec m hm).1 hd).1,fun k h1 h2=>(hfor m hm hd k h1 h2).1⟩
  ·rintro ⟨a1,a2⟩
   refine (hrec m hm).2 ⟨a1,fun k b1 b2 b3=>?_⟩
   have hpk:=hp k b1 b2
   have hkF:=hc k b1 b2
   rw [b3] at hpk hkF
   refine ⟨a2 k hpk hkF,?_⟩
   refine (ih (hs.length - k) (by omega) k (by omega) b2).2 ⟨?_,fun k' h1 h2=>?_⟩
   ·have:=ho k b1 b2
    rw [b3] at this
    omega
   ·exact a2 k' (by omega) (Nat.le_trans h2 (hn m k hm hpk hkF))
end Go.Proofs.YtgjokdngbocehaaGreatDoor
namespace Go.Proofs.YtgjokdngbocehaaGreatDoor
open Go.RowKit
structure Lk (hs:List HN) (rs:List RN):Prop where
 len:hs.length = rs.length + 1
 par:∀ k,k < rs.length → parH hs (k + 1) = (parR rs k + 1).toNat
 ax:AxF rs.length (lastR rs) (parR rs)
 opn:∀ k,1 ≤ k → k < hs.length → opI hs k ≤ opI hs (parH hs k)
def lastH (rs:List RN) (m:Nat):Nat:=if m = 0 then rs.length else lastR rs (m - 1) + 1
section
variable {hs:List HN} {rs:List RN}
theorem Lk.parlt (h:Lk hs rs):∀ k,1 ≤ k → k < hs.length → parH hs k < k:=by
 intro k h1 h2
 obtain ⟨i,rfl⟩:∃ i,k = i + 1:=⟨k - 1,by omega⟩
 have hl:=h.len
 have:=h.ax.plt i (by omega)
 rw [h.par i (by omega)]
 omega
theorem Lk.hc (h:Lk hs rs):∀ k,1 ≤ k → k < hs.length → k ≤ lastH rs (parH hs k):=by
 intro k h1 h2
 obtain ⟨i,rfl⟩:∃ i,k = i + 1:=⟨k - 1,by omega⟩
 have hl:=h.len
 have hp:=h.ax.plt i (by omega)
 rw [h.par i (by omega)]
 unfold lastH
 split
 ·omega
 ·obtain ⟨m,hm⟩:∃ m:Nat,parR rs i = (m:Int):=⟨(parR rs i).toNat,by omega⟩
  have:=ax_child h.ax i m (by omega) hm
  rw [hm]
  have e:((m:Int) + 1).toNat - 1 = m:=by omega
  rw [e];omega
theorem Lk.hg (h:Lk hs rs):∀ m k,m < hs.length → m < k → k ≤ lastH rs m → k < hs.length ∧ m ≤ parH hs k:=by
 intro m k hm h1 h2
 have hl:=h.len
 obtain ⟨i,rfl⟩:∃ i,k = i + 1:=⟨k - 1,by omega⟩
 unfold lastH at h2
 split at h2
 ·exact ⟨by omega,by omega⟩
 ·obtain ⟨j,rfl⟩:∃ j,m = j + 1:=⟨m - 1,by omega⟩
  rw [Nat.add_sub_cancel] at h2
  have hr:=h.ax.rng j (by omega)
  have:=par_ge h.ax j (by omega) i (by omega) (by omega)
  rw [h.par i (by omega)]
  exact ⟨by omega,by omega⟩
theorem Lk.hn (h:Lk hs rs):∀ m j,m < hs.length → m < j → j ≤ lastH rs m → lastH rs j ≤ lastH rs m:=by
 intro m j hm h1 h2
 have hl:=h.len
 obtain ⟨i,rfl⟩:∃ i,j = i + 1:=⟨j - 1,by omega⟩
 unfold lastH at h2 ⊢
 rw [if_neg (by omega),Nat.add_sub_cancel]
 split at h2
 ·rename_i h0
  rw [if_pos h0]
  have:=h.ax.rng i (by omega)
  omega
 ·rename_i h0
  rw [if_neg h0]
  obtain ⟨q,rfl⟩:∃ q,m = q + 1:=⟨m - 1,by omega⟩
  rw [Nat.add_sub_cancel] at h2 ⊢
  have:=ax_nest h.ax q (by omega) i (by omega) (by omega)
  omega
end
end Go.Proofs.YtgjokdngbocehaaGreatDoor
namespace Go.Proofs.YtgjokdngbocehaaGreatDoor
open Go.RowKit
def parI (hs:List HN) (k:Nat):Int:=(hs[k]?.map fun (h:HN)=>h.par).getD (-1)
def parV (hs:List HN) (led:List Int) (k:Nat):Int:=if 0 ≤ parI hs k then led.getD (parI hs k).toNat 0 else 0
def abvV (hs:List HN) (led l:List Int) (k:Nat):Int:=if 0 ≤ parI hs k then orL [l.getD (parI hs k).toNat 0,led.getD (parI hs k).toNat 0] else 0
def abvAll (hs:List HN) (led:List Int) (k:Nat):List Int:=(List.range k).foldl (fun l k=>l.set k (abvV hs led l k)) (List.replicate hs.length 0)
theorem abvAll_zero (hs:List HN) (led:List Int):abvAll hs led 0 = List.replicate hs.length 0:=rfl
theorem abvAll_succ (hs:List HN) (led:List Int) (k:Nat):abvAll hs led (k + 1) = (abvAll hs led k).set k (abvV hs led (abvAll hs led k) k):=by
 unfold abvAll;rw [List.range_succ,List.foldl_append];rfl
theorem abvAll_len (hs:List HN) (led:List Int) (k:Nat):(abvAll hs led k).length = hs.length:=by
 induction k with
 | zero=>simp [abvAll_zero]
 | succ k ih=>rw [abvAll_succ,List.length_set,ih]
theorem abvAll_3 (hs:List HN) (led:List Int) (k:Nat):R3 (abvAll hs led k):=by
 induction k with
 | zero =>
  intro t ht
  rw [abvAll_zero] at ht
  obtain rfl:=(List.mem_replicate.1 ht).2
  unfold T3;decide
 | succ k ih =>
  rw [abvAll_succ]
  refine ih.set k ?_
  unfold abvV
  split
  ·exact orL_3 _
  ·unfold T3;decide
theorem abvAll_at (hs:List HN) (led:List Int) (k:Nat) (h:k < hs.length):(abvAll hs led (k + 1)).getD k 0 = abvV hs led (abvAll hs led k) k:=by
 rw [abvAll_succ,List.getD_eq_getElem?_getD,List.getElem?_set_self (by rw [abvAll_len];exact h)];rfl
theorem abvAll_old (hs:List HN) (led:List Int) (k:Nat):∀ j,k ≤ j → (abvAll hs led (j + 1)).getD k 0 = (abvAll hs led (k + 1)).getD k 0:=by
 intro j
 induction j with
 | zero=>intro h;obtain rfl:k = 0:=by omega
         rfl
 | succ j ih =>
  intro h
  by_cases e:k = j + 1
  ·subst e;rfl
  ·rw [← ih (by omega),abvAll_succ hs led (j + 1),List.getD_eq_getElem?_getD,List.getD_eq_getElem?_getD,List.getElem?_set_ne (by omega)]
def frT (hs:List HN) (led:List Int) (ax:Int) (k:Nat):Int :=
 if ax = 0 then parV hs led k else if ax = 1 then (abvAll hs led (k + 1)).getD k 0 else if ax = 2 then orL [(abvAll hs led (k + 1)).getD k 0,led.getD k 0] else led.getD k 0
def ledT (ex:PX → List Int) (hs:List HN) (led:List Int) (s:PS):List Int:=metT ex hs s (rowOf hs.length (frT hs led s.axis))
def led0 (hs:List HN):List Int:=rowOf hs.length fun k=>truthI (decide (k = 0))
def pathT (ex:PX → List Int) (hs:List HN) (ss:List PS) (j:Nat):List Int:=(ss.take j).foldl (ledT ex hs) (led0 hs)
theorem pathT_zero (ex:PX → List Int) (hs:List HN) (ss:List PS):pathT ex hs ss 0 = led0 hs:=by unfold pathT;rw [List.take_zero];rfl
theorem pathT_succ (ex:PX → List Int) (hs:List HN) (ss:List PS) (j:Nat) (h:j < ss.length):pathT ex hs ss (j + 1) = ledT ex hs (pathT ex hs ss j) ss[j]:=by
 unfold pathT;rw [List.take_succ_eq_append_getElem h,List.foldl_append];rfl
theorem pathT_len (ex:PX → List Int) (hs:List HN) (ss:List PS) (j:Nat) (h:j ≤ ss.length):(pathT ex hs ss j).length = hs.length:=by
 cases j with
 | zero=>rw [pathT_zero];exact rowOf_len ..
 | succ j=>rw [pathT_succ _ _ _ _ (by omega)];exact metT_len ..
theorem pathT_3 (ex:PX → List Int) (hs:List HN) (ss:List PS) (j:Nat) (h:j ≤ ss.length):R3 (pathT ex hs ss j):=by
 cases j with
 | zero=>rw [pathT_zero];exact rowOf_3 _ _ fun k=>truthI_3 _
 | succ j=>rw [pathT_succ _ _ _ _ (by omega)];exact metT_3 _ _ _ _
theorem parV_at (hs:List HN) (led:List Int) (k:Nat) (h:k < hs.length) {p:Nat} (hp:hs[k].par = (p:Int)):parV hs led k = led.getD p 0:=by
 unfold parV parI;rw [List.getElem?_eq_getElem h];simp only [Option.map_some,Option.getD_some,hp,Int.toNat_natCast];rw [if_pos (by omega)]
theorem parV_no (hs:List HN) (led:List Int) (k:Nat) (h:k < hs.length) (hp:¬ 0 ≤ hs[k].par):parV hs led k = 0:=by
 unfold parV parI;rw [List.getElem?_eq_getElem h];exact if_neg hp
theorem abvV_at (hs:List HN) (led l:List Int) (k:Nat) (h:k < hs.length) {p:Nat} (hp:hs[k].par = (p:Int)):abvV hs led l k = orL [l.getD p 0,led.getD p 0]:=by
 unfold abvV parI;rw [List.getElem?_eq_getElem h];simp only [Option.map_some,Option.getD_some,hp,Int.toNat_natCast];rw [if_pos (by omega)]
theorem abvV_no (hs:List HN) (led l:List Int) (k:Nat) (h:k < hs.length) (hp:¬ 0 ≤ hs[k].par):abvV hs led l k = 0:=by
 unfold abvV parI;rw [List.getElem?_eq_getElem h];exact if_neg hp
def vdT (led:List Int) (k:Nat):List (Int × Int):=(List.range k).filterMap fun i=>if 0 < i ∧ led.getD i 0 ≠ 0 then some ((i:Int) - 1,led.getD i 0) else none
theorem vdT_yes (led:List Int) (k:Nat) (h:0 < k) (h0:led.getD k 0 ≠ 0):vdT led (k + 1) = vdT led k ++ [((k:Int) - 1,led.getD k 0)]:=by
 unfold vdT;rw [List.range_succ,List.filterMap_append];simp only [List.filterMap_cons,List.filterMap_nil];rw [if_pos ⟨h,h0⟩]
theorem vdT_no (led:List Int) (k:Nat) (h:¬ (0 < k ∧ led.getD k 0 ≠ 0)):vdT led (k + 1) = vdT led k:=by
 unfold vdT;rw [List.range_succ,List.filterMap_append];simp only [List.filterMap_cons,List.filterMap_nil];rw [if_neg h,List.append_nil]
theorem vdT_le (led:List Int) (k:Nat):(vdT led k).length ≤ k:=by
 have:=List.length_filterMap_le (fun i=>if 0 < i ∧ led.getD i 0 ≠ 0 then some ((i:Int) - 1,led.getD i 0) else none) (List.range k)
 rw [List.length_range] at this;exact this
end Go.Proofs.YtgjokdngbocehaaGreatDoor
