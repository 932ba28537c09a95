/-
  half.Told.
-/
import Derived.Test.YtgjokdngbocehaaGreatDoorHsA
import Derived.Test.YtgjokdngbocehaaGreatDoorHsD
import Derived.Test.YtgjokdngbocehaaGreatDoorHsE
import Derived.Test.YtgjokdngbocehaaGreatDoorHsL
import Derived.Test.YtgjokdngbocehaaGreatDoorHsN
import Derived.Test.YtgjokdngbocehaaGreatDoorHsQ
import Derived.Test.YtgjokdngbocehaaGreatDoorHsS
import Derived.Test.YtgjokdngbocehaaGreatDoorHsV
import Derived.Test.YtgjokdngbocehaaGreatDoorHsZE
import Derived.Test.YtgjokdngbocehaaGreatDoorHsZG
namespace Go.Proofs.YtgjokdngbocehaaGreatDoor
open Go.RowKit
theorem infoIt:(Tryz.prog.info? 59).map (fun i=>(i.zero,i.size,i.bytes)) = some (some (.agg #[.int .i64 0,.string ⟨#[]⟩]),2,24):=by kernel_rfl
theorem vdT_rng (L:List Int) (n:Nat):∀ v ∈ vdT L n,0 ≤ v.1 ∧ v.1 + 1 < (n:Int):=by
 intro v hv
 unfold vdT at hv
 obtain ⟨i,hi,h⟩:=List.mem_filterMap.1 hv
 have hi:=List.mem_range.1 hi
 split at h
 ·cases h
  simp only
  omega
 ·cases h
theorem EvsAt.subO {w:World} {ge go n:Nat} {evs:List Ev} (h:EvsAt w (some ⟨ge,go,none⟩) n evs) (i j:Nat) (hij:i ≤ j) (hj:j ≤ n):EvsAt w (some ⟨ge,go + i * 8,none⟩) (j - i) ((evs.take j).drop i):=by
 have hn:=h.1
 have hl:((evs.take j).drop i).length = j - i:=by rw [List.length_drop,List.length_take];omega
 refine ⟨hl.symm,fun q hq=>?_⟩
 rw [hl] at hq
 have hqe:i + q < evs.length:=by omega
 obtain ⟨b,o,A,m,c,e,hb,hmc,hA,hc⟩:=h.2 (i + q) hqe
 cases e
 have hg:((evs.take j).drop i)[q]'(by rw [hl];exact hq) = evs[i + q]:=by rw [List.getElem_drop,List.getElem_take]
 rw [hg]
 refine ⟨ge,go + i * 8,A,m,c,rfl,hb,hmc,hA,fun r hr=>?_⟩
 rw [← hc r hr]
 congr 2
 omega
theorem read_span {n:Nat} {evs:List Ev} {st:BegS} (h:begAll beg0 evs = some st) (hn:n = evs.length):∀ (i:Nat) (y:HN),(readN evs st)[i + 1]? = some y → y.op = false → y.bg < y.en ∧ y.en ≤ n:=by
 intro i y hy ho
 have hr:=beg_rel h
 have hs:=rnAll_spec h
 have hinv:=nodesB_inv h
 have hl:=(lk_of h).1.len
 have hil:i < (rnAll beg0 [] evs).length:=by have:=get_lt hy;omega
 have hxi:(nodesB evs)[i]? = some ((nodesB evs)[i]'(by have:=hs.len;omega)):=List.getElem?_eq_getElem _
 obtain ⟨r,q1,q2,_,q4,q5⟩:=hs.at' i _ hxi
 obtain ⟨y',g1,g2⟩:=hr.at' i r q1
 rw [readN_at,g1] at hy
 obtain rfl:=Option.some.inj hy
 have hc:=g2.2.2.2.2.2.2.2.1 ho
 have hrg:=hinv.rng i _ hxi
 have hbg:=g2.2.2.2.2.2.1
 have hno:¬ isOpn st i:=fun hop=>by have:=(q4 hop).2.1;omega
 have hcl:=(q5 hno).2.1
 omega
set_option maxRecDepth 100000 in
set_option maxHeartbeats 8000000 in
theorem toldH_any {f:Nat} (hf:f ≤ 1048576) (a:Option Addr) (n c:Nat) (evs:List Ev) (pa:Option Addr) (pc:Nat) (ss:List PS) (w:World) (hE:BegQ w a n evs) (hp:SsAt f w pa ss) (hpl:ss.length ≤ 1048576) (hnc:n ≤ c) :
  Calls Tryz.prog 18 #[.slice a n c,.agg #[.slice pa ss.length pc]] w fun e w'=>∃ A cc,e = .returned (.tuple #[.slice A (toldN f evs ss).1.length cc,.int .i64 (toldN f evs ss).2]) ∧ (toldN f evs ss).1.length ≤ cc ∧ ItAt w' A (toldN f evs ss).1.length (toldN f evs ss).1 ∧ Below w.heap.size w w':=by
 obtain ⟨i0,hi,hz0,hz1,hz2⟩:=info_parts infoIt
 obtain ⟨W0,hW0⟩:∃ W0,W0 = w.alloc (.cells #[.slice pa ss.length pc] 25):=⟨_,rfl⟩
 have hb0:Below w.heap.size w W0:=by rw [hW0];exact (Below.refl _ _).alloc (Nat.le_refl _) _
 have hk0:W0.heap[w.heap.size]? = some (.cells #[.slice pa ss.length pc] 25 (0,0)):=by rw [hW0];exact heap_alloc_new w _
 have hs0:W0.heap.size = w.heap.size + 1:=by rw [hW0];simp
 have HB0:=Lib.hid hb0
 have HQ:=Lib.hid hE
 have HVF:Hid (∀ W,Below W0.heap.size W0 W → Calls Tryz.prog 10 #[.slice a n c,.agg #[.slice pa ss.length pc]] W fun e w'=>∃ A cc,e = .returned (.tuple #[.slice A (verdN f evs ss).1.length cc,.int .i64 (verdN f evs ss).2]) ∧ (verdN f evs ss).1.length ≤ cc ∧ VdAt w' A (verdN f evs ss).1.length (verdN f evs ss).1 ∧ Below W.heap.size W w'):=Lib.hid fun W hW=>verdH_any hf a n c evs pa pc ss W ((hE.below hb0).below hW) (SsAt.below hp (hb0.trans (hW.mono hb0.size))) hpl
 have HRD:Hid (∀ W,Below W0.heap.size W0 W → Calls Tryz.prog 28 #[.slice a n c] W fun e w'=>((∃ st,begAll beg0 evs = some st ∧ e = .returned (.tuple #[.pointer (some ⟨W.heap.size + 2,0,none⟩),.int .i64 0]) ∧ HAt w' (W.heap.size + 2) (readN evs st)) ∨ (begAll beg0 evs = none ∧ e = .returned (.tuple #[.pointer none,.int .i64 6]))) ∧ Below W.heap.size W w'):=Lib.hid fun W hW=>((hE.below hb0).below hW).read (c:=c)
 have HKS:Hid (∀ W,Below W0.heap.size W0 W → W.cell? ⟨w.heap.size,0,none⟩ = some (.slice pa ss.length pc)):=Lib.hid fun W hW=>by rw [cell_heap ((hW.block w.heap.size (by omega)).trans hk0)];rfl
 obtain ⟨R,hR⟩:∃ R,toldN f evs ss = R:=⟨_,rfl⟩
 rw [hR]
 have HRR:Hid ((if (verdN f evs ss).2 ≠ 0 then ([],(verdN f evs ss).2) else match begAll beg0 evs with | none=>([],0) | some st=>(toldL evs (readN evs st) (verdN f evs ss).1,0)) = R):=Lib.hid hR
 have HVV:Hid ((verdN f evs ss).2 = 0 → ∃ st,begAll beg0 evs = some st ∧ (∀ v ∈ (verdN f evs ss).1,0 ≤ v.1 ∧ v.1 + 1 < ((readN evs st).length:Int)) ∧ (verdN f evs ss).1.length ≤ n + 1 ∧ ∀ i h,(readN evs st)[i + 1]? = some h → h.op = false → h.bg < h.en ∧ h.en ≤ n):=Lib.hid fun h0=>by
  cases hst:begAll beg0 evs with
  | none=>unfold verdN at h0;rw [hst] at h0;simp at h0
  | some st =>
   refine ⟨st,rfl,?_,?_,?_⟩
   ·unfold verdN
    rw [hst]
    simp only
    split
    ·intro v hv;cases hv
    ·exact vdT_rng _ _
   ·unfold verdN
    rw [hst]
    simp only
    split
    ·exact Nat.zero_le _
    ·have h1:=(beg_hok hst).len
     have h2:(readN evs st).length = (hAll evs.length evs evs.length).1.length:=List.length_modify _ _ _
     have h3:=hE.at'.1
     have:=vdT_le (pathT (exprT (readN evs st) f) (readN evs st) ss ss.length) (readN evs st).length
     simp only
     omega
   ·exact read_span hst hE.at'.1
 have HW0:=Lib.hid hW0
 generalize ss.length = m at *
 clear hb0 hk0 hs0 hE hp hW0 hR
 generalize verdN f evs ss = V at *
 obtain ⟨l,ev⟩:=V
 simp only at HVF HRR HVV
 have p0:=HKS.out W0 (Below.refl _ _)
 have HV0:=Lib.hid (HVF.out W0 (Below.refl _ _))
 go_enter Tryz.func18,Tryz.ntmps18
 go_wp2_with fail
 rw [← HW0.out]
 (with_reducible refine HV0.out.mono ?_)
 rintro e w2 ⟨A,cc,rfl,hcc,hvd,hb2⟩
 have HB2:=Lib.hid hb2
 have HVD:=Lib.hid hvd
 have HR2:=Lib.hid (HRD.out w2 hb2)
 clear hb2 hvd p0 HV0 HVF HRD
 by_cases he0:ev = 0
 rotate_left
 ·have hne:((ev:Int) != 0) = true:=by simp [he0]
  have HRE:Hid (([],ev) = R):=Lib.hid (by have:=HRR.out;rw [if_pos he0] at this;exact this)
  clear he0
  go_wp2_with fail
  go_ret2
  rw [← HRE.out]
  exact ⟨none,0,rfl,Nat.zero_le _,⟨rfl,fun i h=>absurd h (Nat.not_lt_zero _)⟩,HB0.out.trans (HB2.out.mono HB0.out.size)⟩
 subst he0
 obtain ⟨st,hst,hrg,hln,hsp⟩:=HVV.out rfl
 have HRE:Hid ((toldL evs (readN evs st) l,0) = R):=Lib.hid (by have:=HRR.out;rw [if_neg (by decide),hst] at this;exact this)
 have HST:=Lib.hid hst
 have HRG:=Lib.hid hrg
 have HLN:=Lib.hid hln
 have HSP:=Lib.hid hsp
 clear hst hrg hln hsp HVV HRR
 go_wp2_with fail
 (with_reducible refine HR2.out.mono ?_)
 rintro e w3 ⟨hcase,hb3⟩
 rcases hcase with ⟨st',hst',rfl,hat⟩ | ⟨hno,_⟩
 rotate_left
 ·exact absurd (hno.symm.trans HST.out) (by simp)
 obtain rfl:st' = st:=Option.some.inj (hst'.symm.trans HST.out)
 have HB3:=Lib.hid (HB2.out.trans (hb3.mono HB2.out.size))
 have HVD3:=Lib.hid (HVD.out.below hb3)
 have HAT:=Lib.hid hat
 obtain ⟨bb,hbb⟩:∃ bb,w2.heap.size + 2 = bb:=⟨_,rfl⟩
 rw [hbb] at HAT
 rw [hbb]
 clear hb3 hat hst' hbb
 obtain ⟨lm,hlm⟩:∃ lm,l.length = lm:=⟨_,rfl⟩
 have HLM:=Lib.hid hlm
 rw [hlm] at HVD3
 rw [hlm]
 have hlmb:lm ≤ n + 1:=by rw [← hlm];exact HLN.out
 have hnb:n ≤ 1048576:=HQ.out.le
 clear hlm hcc
 go_wp2_with fail
 go_loopw [10,30] (fun ov iv wr=>∃ k:Nat,iv = .int .i64 k ∧ k ≤ lm ∧ Hid (∀ i,(hi:i < k) → (hl:i < l.length) → okV (readN evs st') l[i] = true) ∧ Hid (Below w3.heap.size w3 wr ∧ wr.ownsRow w3.heap.size 59 2 ov k (itC ((l.take k).map (itemV evs (readN evs st')))))) (fun _ iv _=>lm - (intOf iv).toNat)
 case atStart=>exact ⟨0,rfl,Nat.zero_le _,Lib.hid fun i hi=>absurd hi (Nat.not_lt_zero _),Lib.hid ⟨Below.refl _ _,by rw [List.take_zero];exact World.ownsRow_nil _ _ _ _⟩⟩
 case round =>
  obtain ⟨k,rfl,hk,HOK,HM⟩:=hrel
  by_cases hkn:k < lm
  ·have hil:k < l.length:=by rw [HLM.out];exact hkn
   obtain ⟨b,o,rfl,hbl,x0,x1⟩:=(HVD3.out.below HM.out.1).2 k hil
   have HRK:=Lib.hid (HRG.out l[k] (List.getElem_mem hil))
   obtain ⟨na,nc,hbb,hcn,hrow⟩:=HAT.out.get
   have hjl:(l[k].1 + 1).toNat < (readN evs st').length:=by have:=HRK.out;omega
   obtain ⟨nb,no,NA,nm,nc',rfl,hnb',_,_,_,_,hcs⟩:=hrow (l[k].1 + 1).toNat hjl
   have hwv:Below wr.heap.size wr (wr.alloc (.cells #[.int .i64 l[k].1,.int .i64 l[k].2] 72)):=(Below.refl wr.heap.size wr).alloc (Nat.le_refl _) _
   have hwk:(wr.alloc (.cells #[.int .i64 l[k].1,.int .i64 l[k].2] 72)).heap[wr.heap.size]? = some (.cells #[.int .i64 l[k].1,.int .i64 l[k].2] 72 (0,0)):=heap_alloc_new wr _
   have hwz:wr.heap.size < (wr.alloc (.cells #[.int .i64 l[k].1,.int .i64 l[k].2] 72)).heap.size:=by simp
   have d1:=hcn _ (HM.out.1.trans (hwv.mono HM.out.1.size))
   obtain ⟨e0,e1,e2,e3,e4,e5,e6,e7,e8,e9,e10,e11,e12,e13⟩:=hcs _ (HM.out.1.trans (hwv.mono HM.out.1.size))
   have HOV:Hid (okV (readN evs st') l[k] = (decide (l[k].2 = 2) && !((readN evs st')[(l[k].1 + 1).toNat]).op)):=Lib.hid (by unfold okV;rw [List.getElem?_eq_getElem hjl];rfl)
   have HIV:Hid (itemV evs (readN evs st') l[k] = (l[k].1,((evs.take ((readN evs st')[(l[k].1 + 1).toNat]).en).drop ((readN evs st')[(l[k].1 + 1).toNat]).bg).flatMap evOut)):=Lib.hid (by unfold itemV;rw [List.getElem?_eq_getElem hjl];rfl)
   have HSK:Hid (((readN evs st')[(l[k].1 + 1).toNat]).op = false → ((readN evs st')[(l[k].1 + 1).toNat]).bg < ((readN evs st')[(l[k].1 + 1).toNat]).en ∧ ((readN evs st')[(l[k].1 + 1).toNat]).en ≤ n):=Lib.hid fun ho=>by
    have h0:=HRK.out
    obtain ⟨q,hq⟩:∃ q,(l[k].1 + 1).toNat = q + 1:=⟨(l[k].1 + 1).toNat - 1,by omega⟩
    refine HSP.out q _ ?_ ho
    rw [← hq]
    exact List.getElem?_eq_getElem hjl
   have hjl2:=hjl
   generalize (readN evs st')[(l[k].1 + 1).toNat]'hjl = y at *
   generalize hvk:l[k] = v at *
   obtain ⟨v1,v2⟩:=v
   simp only at *
   obtain ⟨ix,hix⟩:∃ ix,(v1 + 1).toNat = ix:=⟨_,rfl⟩
   rw [hix] at e0 e1 e2 e3 e4 e5 e6 e7 e8 e9 e10 e11 e12 e13 hjl2
   have ewv:IntKind.i64.wrap (v1 + 1) = (ix:Int):=by
    have h0:=HRK.out
    have h1:=HAT.out.cap
    rw [IntWalk.i64_in _ (by omega)];omega
   have HVK:=Lib.hid hvk
   obtain ⟨NL,hNL⟩:∃ NL,(readN evs st').length = NL:=⟨_,rfl⟩
   have hcap:=HAT.out.cap
   rw [hNL] at d1 hjl2 hcap
   have i1:(0:Int) ≤ (k:Int):=by omega
   have i2:(k:Int) < (lm:Int):=by omega
   have i3:(0:Int) ≤ (ix:Int):=by omega
   have i4:(ix:Int) < (NL:Int):=by omega
   have ewk:IntKind.i64.wrap ((k:Int) + 1) = (k:Int) + 1:=IntWalk.i64_in _ (by omega)
   clear hcn hrow hcs hvk hix hNL hjl hjl2 hcap
   have f0:(wr.alloc (.cells #[.int .i64 v1,.int .i64 v2] 72)).cell? ⟨wr.heap.size,0,none⟩ = some (.int .i64 v1):=by rw [cell_heap hwk];rfl
   have f1:(wr.alloc (.cells #[.int .i64 v1,.int .i64 v2] 72)).cell? ⟨wr.heap.size,1,none⟩ = some (.int .i64 v2):=by rw [cell_heap hwk];rfl
   have HWV:=Lib.hid (⟨hwv,hwk,hwz⟩:_ ∧ _ ∧ _)
   clear hwv hwk hwz
   go_upto_region 9 with fail
   obtain ⟨WV,hWV⟩:∃ WV,wr.alloc (.cells #[.int .i64 v1,.int .i64 v2] 72) = WV:=⟨_,rfl⟩
   rw [hWV] at HWV e0 e1 e2 e3 e4 e5 e6 e7 e8 e9 e10 e11 e12 e13 d1 f0 f1
   rw [hWV]
   clear hWV
   have g0:wr.heap.size < WV.heap.size:=HWV.out.2.2
   have g1:bb < WV.heap.size:=by have:=HM.out.1.size;omega
   have g2:nb < WV.heap.size:=by have:=HM.out.1.size;omega
   obtain ⟨WD,hWD⟩:∃ WD,(WV.alloc (.cells #[.int .i64 y.ev.kind,.int .i64 y.ev.num,.int .i64 y.ev.dep,.string (strL y.ev.name),.slice NA nm nc',.string (strL y.ev.text),.int .i64 y.ev.fr,.int .i64 y.ev.tt,.int .i64 y.kd,.int .i64 y.par,.bool y.op,.string (strL y.txt),.int .i64 (y.bg:Nat),.int .i64 (y.en:Nat)] 99)).drew = WD:=⟨_,rfl⟩
   have hbd:Below WV.heap.size WV WD:=by rw [← hWD];exact ((Below.refl WV.heap.size WV).alloc (Nat.le_refl _) _).drew
   have hzd:WV.heap.size < WD.heap.size:=by rw [← hWD];show WV.heap.size < (WV.alloc _).heap.size;simp
   have hkd:WD.heap[WV.heap.size]? = some (.cells #[.int .i64 y.ev.kind,.int .i64 y.ev.num,.int .i64 y.ev.dep,.string (strL y.ev.name),.slice NA nm nc',.string (strL y.ev.text),.int .i64 y.ev.fr,.int .i64 y.ev.tt,.int .i64 y.kd,.int .i64 y.par,.bool y.op,.string (strL y.txt),.int .i64 (y.bg:Nat),.int .i64 (y.en:Nat)] 99 (0,0)):=by rw [← hWD];exact heap_alloc_new WV _
   have hb3:Below w3.heap.size w3 WD:=HM.out.1.trans ((HWV.out.1.trans (hbd.mono HWV.out.1.size)).mono HM.out.1.size)
   have HCD:Hid (∀ W,Below WD.heap.size WD W → W.cell? ⟨wr.heap.size,0,none⟩ = some (.int .i64 v1) ∧ W.cell? ⟨wr.heap.size,1,none⟩ = some (.int .i64 v2) ∧ W.cell? ⟨WV.heap.size,10,none⟩ = some (.bool y.op) ∧ W.cell? ⟨WV.heap.size,12,none⟩ = some (.int .i64 (y.bg:Nat)) ∧ W.cell? ⟨WV.heap.size,13,none⟩ = some (.int .i64 (y.en:Nat)) ∧ Below w3.heap.size w3 W ∧ W.ownsRow w3.heap.size 59 2 u10 k (itC ((l.take k).map (itemV evs (readN evs st'))))):=Lib.hid fun W hW=>by
    have q1:=(hW.block wr.heap.size (by omega)).trans ((hbd.block wr.heap.size g0).trans HWV.out.2.1)
    have q2:=(hW.block WV.heap.size hzd).trans hkd
    refine ⟨by rw [cell_heap q1];rfl,by rw [cell_heap q1];rfl,by rw [cell_heap q2];rfl,by rw [cell_heap q2];rfl,by rw [cell_heap q2];rfl,hb3.trans (hW.mono hb3.size),?_⟩
    exact own_block HM.out.2 fun q hq=>by
     have hlt:=(HM.out.2.lt q hq).2
     exact (hW.block _ (by omega)).trans ((hbd.block _ (by omega)).trans (HWV.out.1.block _ hlt))
   go_region
   clear hWD hbd hzd hkd hb3 e0 e1 e2 e3 e4 e5 e6 e7 e8 e9 e10 e11 e12 e13 d1 f0 f1 g1 g2 HM x0 x1
   generalize WV.heap.size = BN at *
   generalize wr.heap.size = BV at *
   have ⟨f0,f1,e10,e12,e13,hw3,hown0⟩:=HCD.out WD (Below.refl _ _)
   have HW3:=Lib.hid hw3
   have HOWN0:=Lib.hid hown0
   clear hw3 hown0
   by_cases hv2:v2 = 2
   rotate_left
   ·have t2:((v2:Int) == 2) = false:=by simpa using hv2
    have t2':((v2:Int) != 2) = true:=by simp [hv2]
    have HTL:Hid (toldL evs (readN evs st') l = (l.take k).map (itemV evs (readN evs st'))):=Lib.hid (by
     unfold toldL
     rw [takeWhile_stop (okV (readN evs st')) l k hil (fun i hi=>HOK.out i hi _) (by rw [HVK.out,HOV.out,decide_eq_false hv2];rfl)])
    have HLK:Hid (((l.take k).map (itemV evs (readN evs st'))).length = k):=Lib.hid (by rw [List.length_map,List.length_take];omega)
    obtain ⟨A',cc',hu10,hcc',hit⟩:=ItAt.of2 HLK.out HOWN0.out
    subst hu10
    have HLK2:=Lib.hid hcc'
    have HIT:=Lib.hid hit
    clear hit hcc'
    clear hv2
    go_wp2_with fail
    go_ret2
    rw [← HRE.out]
    dsimp only
    rw [HTL.out,HLK.out]
    exact ⟨A',cc',rfl,HLK2.out,HIT.out,HB0.out.trans ((HB3.out.trans (HW3.out.mono HB3.out.size)).mono HB0.out.size)⟩
   ·subst hv2
    cases hop:y.op with
    | true =>
     rw [hop] at e10
     have HTL:Hid (toldL evs (readN evs st') l = (l.take k).map (itemV evs (readN evs st'))):=Lib.hid (by
      unfold toldL
      rw [takeWhile_stop (okV (readN evs st')) l k hil (fun i hi=>HOK.out i hi _) (by rw [HVK.out,HOV.out,hop];rfl)])
     have HLK:Hid (((l.take k).map (itemV evs (readN evs st'))).length = k):=Lib.hid (by rw [List.length_map,List.length_take];omega)
     obtain ⟨A',cc',hu10,hcc',hit⟩:=ItAt.of2 HLK.out HOWN0.out
     subst hu10
     have HLK2:=Lib.hid hcc'
     have HIT:=Lib.hid hit
     clear hit hcc'
     go_wp2_with fail
     go_ret2
     rw [← HRE.out]
     dsimp only
     rw [HTL.out,HLK.out]
     exact ⟨A',cc',rfl,HLK2.out,HIT.out,HB0.out.trans ((HB3.out.trans (HW3.out.mono HB3.out.size)).mono HB0.out.size)⟩
    | false =>
     rw [hop] at e10
     obtain ⟨hs1,hs2⟩:=HSK.out hop
     have HOK2:Hid (∀ i,(hi:i < k + 1) → (hl:i < l.length) → okV (readN evs st') l[i] = true):=Lib.hid fun i hi hl=>by
      by_cases e:i = k
      ·subst e;rw [HVK.out,HOV.out,hop];rfl
      ·exact HOK.out i (by omega) hl
     have HIT:Hid ((l.take (k + 1)).map (itemV evs (readN evs st')) = (l.take k).map (itemV evs (readN evs st')) ++ [(v1,((evs.take y.en).drop y.bg).flatMap evOut)]):=Lib.hid (by
      rw [List.take_succ_eq_append_getElem hil,List.map_append,List.map_cons,List.map_nil,HVK.out,HIV.out])
     have hbn:y.bg < evs.length:=by have:=HQ.out.at'.1;omega
     obtain ⟨eb,eo,EA,em,ec,ha,hrst⟩:=HQ.out.at'.at8 y.bg hbn
     clear hrst
     have HCP:Hid (Calls Tryz.prog 37 #[.slice (if c = y.bg then a else some ⟨eb,eo + y.bg * 8,none⟩) (y.en - y.bg) (c - y.bg)] WD.drew fun e w'=>e = .returned (.string (strL (((evs.take y.en).drop y.bg).flatMap evOut))) ∧ Below WD.heap.size WD w'):=Lib.hid (by
      rw [if_neg (by omega)]
      have hd:Below WD.heap.size WD WD.drew:=(Below.refl WD.heap.size WD).drew
      have hE9:=((HQ.out.below HB0.out).below (HB3.out.trans (HW3.out.mono HB3.out.size))).at'
      rw [ha] at hE9
      have hE8:=EvsAt.subO (hE9.below hd) y.bg y.en (by omega) hs2
      exact (canonPrint_any _ _ (c - y.bg) _ _ hE8 (Nat.le_trans (wtEs_sub _ _ _) HQ.out.wt)).mono fun e w' ⟨h1,h2⟩=>⟨h1,hd.trans (h2.mono (Nat.le_refl _))⟩)
     have HAA:=Lib.hid ha
     obtain ⟨T,hT⟩:∃ T,((evs.take y.en).drop y.bg).flatMap evOut = T:=⟨_,rfl⟩
     rw [hT] at HCP HIT
     obtain ⟨l2,hl2⟩:∃ l2,(l.take (k + 1)).map (itemV evs (readN evs st')) = l2:=⟨_,rfl⟩
     rw [hl2] at HIT
     have HL2:=Lib.hid hl2
     clear hl2
     generalize (l.take k).map (itemV evs (readN evs st')) = l1 at *
     have j1:(0:Int) ≤ (y.bg:Int):=by omega
     have j2:(y.bg:Int) ≤ (y.en:Int):=by omega
     have j3:(y.en:Int) ≤ (c:Int):=by omega
     have hsz3:=HW3.out.size
     clear hT hop hbn
     generalize y.bg = p at *
     generalize y.en = q at *
     subst ha
     have HNEW:Hid (∀ (W:World) o,(W.alloc o).heap[W.heap.size]? = some o):=Lib.hid fun W o=>heap_alloc_new W o
     have HFIN:Hid (∀ w6 o v7 w7,Below WD.heap.size WD w6 → w7.ownsRow w3.heap.size 59 2 v7 (k + 1) (itC l1 ++ [.int .i64 v1,.string (strL T)]) → App (w6.alloc o) w7 u10 v7 → Below w3.heap.size w3 w7 ∧ w7.ownsRow w3.heap.size 59 2 v7 (k + 1) (itC l2)):=Lib.hid fun w6 o v7 w7 h6 hown hap=>by
      obtain ⟨_,_,_,_,_,hw6,hown6⟩:=HCD.out w6 h6
      refine ⟨(hw6.alloc hw6.size _).trans (hap.below (by have:=hw6.size;simp;omega) (fun q hq=>(hown6.lt q hq).1)),?_⟩
      rw [HIT.out,itC_snoc]
      exact hown
     have HSZ6:Hid (∀ w6 o,Below WD.heap.size WD w6 → w3.heap.size ≤ (w6.alloc o).heap.size):=Lib.hid fun w6 o h6=>by
      have:=h6.size
      simp;omega
     have honm:k + 1 ≤ 4294967296:=by omega
     have ho1:∀ u ∈ [Value.int .i64 v1,.string (strL T)],u.oneCell' = true:=by intro u hu;simp only [List.mem_cons,List.not_mem_nil,or_false] at hu;rcases hu with rfl | rfl <;> rfl
     go_wp2_with fail
     go_region_law (first | (go_simp;go_at_call 37;(with_reducible refine HCP.out.mono ?_);rintro e w6 ⟨rfl,hb6⟩;obtain ⟨a0,a1,a10,a12,a13,hw6,hown6⟩:=HCD.out w6 hb6;have HB6:=Lib.hid hb6;have HO6:Hid (∀ o,(w6.alloc o).ownsRow w3.heap.size 59 2 u10 k (itC l1)):=Lib.hid (fun o=>hown6.alloc o);clear hw6 hown6 hb6) | (refine step_app _ rfl (.tmp 50) (.tmp 61) 53 rfl w3.heap.size 59 i0 _ 2 24 Tryz.underlying53 hi hz0 hz1 hz2 (by rfl) (by decide) u10 k _ (by rfl) (HO6.out _) w6.heap.size 1 [.int .i64 v1,.string (strL T)] (by rfl) (by rfl) (HNEW.out w6 _) ho1 honm (by decide) (HSZ6.out w6 _ HB6.out) ?_;intro v7 w7 hown7 hap7;have HN7:=Lib.hid (HFIN.out _ _ _ _ HB6.out hown7 hap7);clear hown7 hap7))
     all_goals
      go_wp2_with fail
      go_roundw
      case rel=>exact ⟨k + 1,by go_num,by omega,HOK2,Lib.hid (by rw [HL2.out];exact HN7.out)⟩
      case measure=>simp [intOf];omega
  ·have hk2:(lm:Int) ≤ (k:Int):=by omega
   have hkl:k = lm:=by omega
   have HTL:Hid (toldL evs (readN evs st') l = (l.take k).map (itemV evs (readN evs st'))):=Lib.hid (by
    have hall:∀ x ∈ l,okV (readN evs st') x = true:=fun x hx=>by
     obtain ⟨i,hi,rfl⟩:=List.getElem_of_mem hx
     exact HOK.out i (by have:=HLM.out;omega) hi
    unfold toldL
    rw [takeWhile_all _ _ hall,List.take_of_length_le (by have:=HLM.out;omega)])
   have HLK:Hid (((l.take k).map (itemV evs (readN evs st'))).length = k):=Lib.hid (by rw [List.length_map,List.length_take];have:=HLM.out;omega)
   obtain ⟨A',cc',hu10,hcc',hit⟩:=ItAt.of2 HLK.out HM.out.2
   subst hu10
   have HLK2:=Lib.hid hcc'
   have HIT:=Lib.hid hit
   have HW3:=Lib.hid HM.out.1
   clear hit hcc' HM hkl
   go_wp2_with fail
   go_ret2
   rw [← HRE.out]
   dsimp only
   rw [HTL.out,HLK.out]
   exact ⟨A',cc',rfl,HLK2.out,HIT.out,HB0.out.trans ((HB3.out.trans (HW3.out.mono HB3.out.size)).mono HB0.out.size)⟩
end Go.Proofs.YtgjokdngbocehaaGreatDoor
