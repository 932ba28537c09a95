/-
  The answer's Told.
-/
import Derived.Test.YtgjokdngbocehaaGreatDoorHtA
import Derived.Test.YtgjokdngbocehaaGreatDoorHtB
import Derived.Test.YtgjokdngbocehaaGreatDoorHtC
import Derived.Test.YtgjokdngbocehaaGreatDoorHtD
import Derived.Test.YtgjokdngbocehaaGreatDoorHtE
import Derived.Test.YtgjokdngbocehaaGreatDoorHtF
import Derived.Test.YtgjokdngbocehaaGreatDoorHtG
import Derived.Test.YtgjokdngbocehaaGreatDoorHtK
import Derived.Test.YtgjokdngbocehaaGreatDoorHtR
import Derived.Test.YtgjokdngbocehaaGreatDoorHtT
import Derived.Test.YtgjokdngbocehaaGreatDoorHtV
import Derived.Test.YtgjokdngbocehaaGreatDoorHtW
import Derived.Test.YtgjokdngbocehaaGreatDoorHtX
import Derived.Test.YtgjokdngbocehaaGreatDoorHtY
import Derived.Test.YtgjokdngbocehaaGreatDoorHtZ
import Derived.Test.YtgjokdngbocehaaGreatDoorHtZA
import Derived.Test.YtgjokdngbocehaaGreatDoorHtZB
import Derived.Test.YtgjokdngbocehaaGreatDoorHtZC
import Derived.Test.YtgjokdngbocehaaGreatDoorHtZE
import Derived.Test.YtgjokdngbocehaaGreatDoorHtZG
import Derived.Test.YtgjokdngbocehaaGreatDoorHtZJ
import Derived.Test.YtgjokdngbocehaaGreatDoorHtZM
namespace Go.Proofs.YtgjokdngbocehaaGreatDoor
open Go.RowKit
theorem infoIt15:(Tryz.prog.info? 60).map (fun i=>(i.zero,i.size,i.bytes)) = some (some (.agg #[.int .i64 0,.string ⟨#[]⟩]),2,24):=by kernel_rfl
theorem pieces_of {evs:List Ev} {st:BegS} (h:begAll beg0 evs = some st) (hsm:∀ e ∈ evs,EvSm e) (hwt:wtEs evs ≤ 1048576) :
  (∀ e ∈ evs,∀ W A m c,AttrsAt W A m e.ats → Calls Tryz.prog 104 #[.agg (evC e.kind e.num e.dep e.name A m c e.text e.fr e.tt)] W fun r w'=>r = .returned (.string (strL (evOut e))) ∧ Below W.heap.size W w') ∧ ∀ e ∈ evs,(evOut e).length ≤ 134217728:=by
 refine ⟨fun ev hev W A m c hA=>?_,fun e he=>?_⟩
 ·obtain ⟨i,hi,rfl⟩:=List.getElem_of_mem hev
  have hs:=hsm _ hev
  have hw:=Nat.le_trans (wtEs_mem evs i hi) hwt
  have hk:evs[i].kind = 0 ∨ evs[i].kind = 1 ∨ evs[i].kind = 2:=by
   obtain ⟨u,hu⟩:=begAll_take h i
   have hok:=(begAll_at h i hi hu).1
   by_cases h0:evs[i].kind = 0
   ·exact .inl h0
   ·by_cases h1:evs[i].kind = 1
    ·exact .inr (.inl h1)
    ·by_cases h2:evs[i].kind = 2
     ·exact .inr (.inr h2)
     ·rw [begOk3 u _ h0 h1 h2] at hok;cases hok
  generalize evs[i] = ev at *
  have h8:=evOut_len ⟨0,ev.num,ev.dep,ev.name,ev.ats,ev.text,ev.fr,ev.tt⟩
  have h9:(ev.ats.flatMap attrW).length ≤ (evOut ⟨0,ev.num,ev.dep,ev.name,ev.ats,ev.text,ev.fr,ev.tt⟩).length:=by
   unfold evOut eventW
   rw [if_pos rfl]
   simp only [List.length_append]
   omega
  have h10:wtE ⟨0,ev.num,ev.dep,ev.name,ev.ats,ev.text,ev.fr,ev.tt⟩ = wtE ev:=rfl
  exact piece9_any _ _ _ _ _ _ _ A m c ev.ats W hA hk hs.1 hs.2.1 (by rw [hA.1];exact hs.2.2.1) hs.2.2.2 (by omega)
 ·obtain ⟨i,hi,rfl⟩:=List.getElem_of_mem he
  have hw:=Nat.le_trans (wtEs_mem evs i hi) hwt
  have:=evOut_len evs[i]
  omega
set_option maxRecDepth 100000 in
set_option maxHeartbeats 8000000 in
theorem told15_any {f:Nat} (a:Option Addr) (n c:Nat) (evs:List Ev) (st:BegS) (pa:Option Addr) (pc:Nat) (ss:List PS) (w:World) (hE:BegQ w a n evs) (hst:begAll beg0 evs = some st) (h4:n ≤ 400) (hp:SsAt f w pa ss) (hpl:ss.length ≤ 1048576) (hg:goodPB (goodXB f) ss = true) :
  Calls Tryz.prog 19 #[.slice a n c,.agg #[.slice pa ss.length pc]] w fun e w'=>∃ A cc,e = .returned (.slice A (toldL evs (readN evs st) (vdT (pathT (exprT (readN evs st) f) (readN evs st) ss ss.length) (readN evs st).length)).length cc) ∧ ItAt w' A (toldL evs (readN evs st) (vdT (pathT (exprT (readN evs st) f) (readN evs st) ss ss.length) (readN evs st).length)).length (toldL evs (readN evs st) (vdT (pathT (exprT (readN evs st) f) (readN evs st) ss ss.length) (readN evs st).length)) ∧ Below w.heap.size w w':=by
 obtain ⟨i0,hi,hz0,hz1,hz2⟩:=info_parts infoIt15
 obtain ⟨hPC,hOL⟩:=pieces_of hst hE.sm hE.wt
 have hr:=beg_rel hst
 have hln:=(lk_of hst).1.len
 obtain ⟨W0,hW0⟩:∃ W0,W0 = w.alloc (.cells #[.slice pa ss.length pc] 25):=⟨_,rfl⟩
 have hb0:Below w.heap.size w W0:=by rw [hW0];exact (Below.refl _ _).alloc (Nat.le_refl _) _
 have hk0:W0.heap[w.heap.size]? = some (.cells #[.slice pa ss.length pc] 25 (0,0)):=by rw [hW0];exact heap_alloc_new w _
 have hs0:W0.heap.size = w.heap.size + 1:=by rw [hW0];simp
 have HB0:=Lib.hid hb0
 have HOF:Hid (Calls Tryz.prog 33 #[.slice a n c] W0 fun e w'=>∃ an cn,e = .returned (.agg #[.slice an (rnAll beg0 [] evs).length cn,.bool (decide (evs ≠ [] ∧ st.opn = []))]) ∧ RbMem w' an evs (rnAll beg0 [] evs) ∧ Below W0.heap.size W0 w'):=Lib.hid (of15_any a n c evs st W0 (hE.below hb0).at' hst hE.le hE.sm)
 have HVD:Hid (∀ W,Below W0.heap.size W0 W → Calls Tryz.prog 14 #[.slice a n c,.agg #[.slice pa ss.length pc]] W fun e w'=>∃ A cc,e = .returned (.slice A (vdT (pathT (exprT (readN evs st) f) (readN evs st) ss ss.length) (readN evs st).length).length cc) ∧ VdAt w' A (vdT (pathT (exprT (readN evs st) f) (readN evs st) ss ss.length) (readN evs st).length).length (vdT (pathT (exprT (readN evs st) f) (readN evs st) ss ss.length) (readN evs st).length) ∧ Below W.heap.size W w'):=Lib.hid fun W hW=>verd15_any a n c evs st pa pc ss W ((hE.below hb0).below hW) hst h4 (SsAt.below hp (hb0.trans (hW.mono hb0.size))) hpl hg
 have HOP:Hid (∀ W an cn (v:Int) (y:HN),RbMem W an evs (rnAll beg0 [] evs) → -1 ≤ v → (readN evs st)[(v + 1).toNat]? = some y → Calls Tryz.prog 38 #[.agg #[.slice an (rnAll beg0 [] evs).length cn,.bool (decide (evs ≠ [] ∧ st.opn = []))],.int .i64 v] W fun e w'=>e = .returned (.bool y.op) ∧ Below W.heap.size W w'):=Lib.hid fun W an cn v y hm h1 h2=>open15_any (cn:=cn) v y W (rd_of hst hm hE.sm hE.wt (by rw [← hE.at'.1];exact h4)) h1 h2
 have HFM:Hid (∀ W an cn (i:Nat) (y:HN),Below W0.heap.size W0 W → RbMem W an evs (rnAll beg0 [] evs) → (readN evs st)[i + 1]? = some y → y.op = false → Calls Tryz.prog 39 #[.slice a n c,.slice an (rnAll beg0 [] evs).length cn,.int .i64 (i:Nat)] W fun e w'=>e = .returned (.string (strL (((evs.take y.en).drop y.bg).flatMap evOut))) ∧ Below W.heap.size W w'):=Lib.hid fun W an cn i y hW hm hy ho=>by
  have hil:i < (rnAll beg0 [] evs).length:=by have:=get_lt hy;omega
  have hri:(rnAll beg0 [] evs)[i]? = some (rnAll beg0 [] evs)[i]:=List.getElem?_eq_getElem hil
  obtain ⟨y',g1,g2⟩:=hr.at' i _ hri
  have hy':=hy
  rw [readN_at,g1] at hy'
  obtain rfl:=Option.some.inj hy'
  have hsp:=read_span hst hE.at'.1 i y' hy ho
  have hcl:=g2.2.2.2.2.2.2.2.1 ho
  have hbg:=g2.2.2.2.2.2.1
  have:=formR_any a an n c cn i y'.en _ evs _ W ((hE.below hb0).below hW).at' hE.le hm hri (by omega) (by omega) (by have:=hE.at'.1;omega) hPC hOL
  rw [← hbg] at this
  exact this
 have HKS:Hid (∀ W,Below W0.heap.size W0 W → W.cell? ⟨w.heap.size,0,none⟩ = some (.slice pa ss.length pc)):=Lib.hid fun W hW=>by rw [cell_heap ((hW.block w.heap.size (by omega)).trans hk0)];rfl
 have HRG:Hid (∀ v ∈ vdT (pathT (exprT (readN evs st) f) (readN evs st) ss ss.length) (readN evs st).length,0 ≤ v.1 ∧ v.1 + 1 < ((readN evs st).length:Int)):=Lib.hid (vdT_rng _ _)
 have HLN:Hid ((vdT (pathT (exprT (readN evs st) f) (readN evs st) ss ss.length) (readN evs st).length).length ≤ n + 1 ∧ n ≤ 400):=Lib.hid (by
  have h1:=(beg_hok hst).len
  have h2:(readN evs st).length = (hAll evs.length evs evs.length).1.length:=List.length_modify _ _ _
  have h3:=hE.at'.1
  have:=vdT_le (pathT (exprT (readN evs st) f) (readN evs st) ss ss.length) (readN evs st).length
  exact ⟨by omega,h4⟩)
 have HW0:=Lib.hid hW0
 generalize vdT (pathT (exprT (readN evs st) f) (readN evs st) ss ss.length) (readN evs st).length = l at *
 generalize ss.length = m at *
 generalize readN evs st = hs at *
 generalize (decide (evs ≠ [] ∧ st.opn = [])) = clo at *
 generalize rnAll beg0 [] evs = rs at *
 clear hb0 hk0 hs0 hE hp hW0 hst hr hln hPC hOL hg h4 hpl
 go_enter Tryz.func19,Tryz.ntmps19
 go_wp2_with fail
 rw [← HW0.out]
 (with_reducible refine HOF.out.mono ?_)
 rintro e w2 ⟨an,cn,rfl,hm2,hb2⟩
 obtain ⟨L,hL⟩:∃ L,rs.length = L:=⟨_,rfl⟩
 rw [hL] at HOP HFM
 rw [hL]
 obtain ⟨WD,hWD⟩:∃ WD,w2.alloc (.cells #[.slice an L cn,.bool clo] 90) = WD:=⟨_,rfl⟩
 have hbd:Below w2.heap.size w2 WD:=by rw [← hWD];exact (Below.refl w2.heap.size w2).alloc (Nat.le_refl _) _
 have hzd:w2.heap.size < WD.heap.size:=by rw [← hWD];simp
 have hkd:WD.heap[w2.heap.size]? = some (.cells #[.slice an L cn,.bool clo] 90 (0,0)):=by rw [← hWD];exact heap_alloc_new w2 _
 have HBD:=Lib.hid (hb2.trans (hbd.mono hb2.size))
 have HCD:Hid (∀ W,Below WD.heap.size WD W → W.cell? ⟨w2.heap.size,0,none⟩ = some (.slice an L cn) ∧ W.cell? ⟨w2.heap.size,1,none⟩ = some (.bool clo) ∧ RbMem W an evs rs ∧ Below W0.heap.size W0 W):=Lib.hid fun W hW=>by
  have q:=(hW.block w2.heap.size hzd).trans hkd
  exact ⟨by rw [cell_heap q];rfl,by rw [cell_heap q];rfl,(hm2.below hbd).below hW,HBD.out.trans (hW.mono HBD.out.size)⟩
 have p0:=HKS.out WD HBD.out
 have HV0:=Lib.hid (HVD.out WD HBD.out)
 clear hm2 hb2 hbd hzd hkd hL
 obtain ⟨BN,hBN⟩:∃ BN,w2.heap.size = BN:=⟨_,rfl⟩
 rw [hBN] at HCD
 have HBN:=Lib.hid hBN
 go_wp2_with fail
 (with_reducible refine HV0.out.mono ?_)
 rintro e w3 ⟨A,cc,rfl,hvd,hb3⟩
 clear hWD hBN p0
 have HB3:=Lib.hid hb3
 have HVD3:=Lib.hid hvd
 obtain ⟨lm,hlm⟩:∃ lm,l.length = lm:=⟨_,rfl⟩
 have HLM:=Lib.hid hlm
 rw [hlm] at HVD3
 rw [hlm]
 have hlmb:lm ≤ 401:=by have:=HLN.out;omega
 clear hlm hvd hb3
 go_wp2_with fail
 go_loopw [7,8] (fun ov iv wr=>∃ k:Nat,iv = .int .i64 k ∧ k ≤ lm ∧ Hid (∀ i,(hi:i < k) → (hl:i < l.length) → okV hs l[i] = true) ∧ Hid (Below w3.heap.size w3 wr ∧ wr.ownsRow w3.heap.size 60 2 ov k (itC ((l.take k).map (itemV evs hs))))) (fun _ iv _=>lm - (intOf iv).toNat)
 case atStart=>exact ⟨0,rfl,Nat.zero_le _,Lib.hid fun i hi=>absurd hi (Nat.not_lt_zero _),Lib.hid ⟨Below.refl _ _,by rw [List.take_zero];exact World.ownsRow_nil _ _ _ _⟩⟩
 case round =>
  obtain ⟨k,rfl,hk,HOK,HM⟩:=hrel
  have HWR:Hid (Below WD.heap.size WD wr):=Lib.hid (HB3.out.trans (HM.out.1.mono HB3.out.size))
  by_cases hkn:k < lm
  ·have hil:k < l.length:=by rw [HLM.out];exact hkn
   obtain ⟨b,o,rfl,hbl,x0,x1⟩:=(HVD3.out.below HM.out.1).2 k hil
   have HRK:=Lib.hid (HRG.out l[k] (List.getElem_mem hil))
   have hjl:(l[k].1 + 1).toNat < hs.length:=by have:=HRK.out;omega
   have hyy:hs[(l[k].1 + 1).toNat]? = some hs[(l[k].1 + 1).toNat]:=List.getElem?_eq_getElem hjl
   have HOV:Hid (okV hs l[k] = (decide (l[k].2 = 2) && !(hs[(l[k].1 + 1).toNat]).op)):=Lib.hid (by unfold okV;rw [hyy];rfl)
   have HIV:Hid (itemV evs hs l[k] = (l[k].1,((evs.take (hs[(l[k].1 + 1).toNat]).en).drop (hs[(l[k].1 + 1).toNat]).bg).flatMap evOut)):=Lib.hid (by unfold itemV;rw [hyy];rfl)
   have HYY:=Lib.hid hyy
   clear hyy
   generalize hs[(l[k].1 + 1).toNat]'hjl = y at *
   generalize hvk:l[k] = v at *
   have HVK:=Lib.hid hvk
   obtain ⟨v1,v2⟩:=v
   simp only at *
   obtain ⟨ix,hix⟩:∃ ix:Nat,v1 = (ix:Int):=⟨v1.toNat,by have:=HRK.out;omega⟩
   subst hix
   have e1:((ix:Int) + 1).toNat = ix + 1:=by omega
   rw [e1] at HYY
   have HOPK:=Lib.hid (HOP.out wr an cn (ix:Int) y (HCD.out wr HWR.out).2.2.1 (by omega) (by rw [e1];exact HYY.out))
   obtain ⟨y0,y1,hmr,hbw⟩:=HCD.out wr HWR.out
   have HMR:=Lib.hid hmr
   have i1:(0:Int) ≤ (k:Int):=by omega
   have i2:(k:Int) < (lm:Int):=by omega
   have ewk:IntKind.i64.wrap ((k:Int) + 1) = (k:Int) + 1:=IntWalk.i64_in _ (by omega)
   have HBW:Hid (∀ W,Below wr.heap.size wr W → Below w.heap.size w W ∧ Below WD.heap.size WD W ∧ Below w3.heap.size w3 W):=Lib.hid fun W hW=>⟨HB0.out.trans ((hbw.trans (hW.mono hbw.size)).mono HB0.out.size),HWR.out.trans (hW.mono HWR.out.size),HM.out.1.trans (hW.mono HM.out.1.size)⟩
   have HOWN0:Hid (∀ W,Below wr.heap.size wr W → W.ownsRow w3.heap.size 60 2 u7 k (itC ((l.take k).map (itemV evs hs)))):=Lib.hid fun W hW=>own_block HM.out.2 fun q hq=>hW.block _ (HM.out.2.lt q hq).2
   clear hvk hjl hmr hbw e1 hbl HM
   by_cases hv2:v2 = 2
   rotate_left
   ·have t2:((v2:Int) == 2) = false:=by simpa using hv2
    have t2':((v2:Int) != 2) = true:=by simp [hv2]
    have HTL:Hid (toldL evs hs l = (l.take k).map (itemV evs hs)):=Lib.hid (by
     unfold toldL
     rw [takeWhile_stop (okV hs) l k hil (fun i hi=>HOK.out i hi _) (by rw [HVK.out,HOV.out,decide_eq_false hv2];rfl)])
    have HLK:Hid (((l.take k).map (itemV evs hs)).length = k):=Lib.hid (by rw [List.length_map,List.length_take];omega)
    obtain ⟨A',cc',hu10,hcc',hit⟩:=ItAt.of2 HLK.out (HOWN0.out wr (Below.refl _ _))
    subst hu10
    have HIT:=Lib.hid hit
    clear hit hcc' hv2 HOWN0
    go_wp2_with fail
    go_ret
    rw [HTL.out,HLK.out]
    exact ⟨A',cc',rfl,HIT.out,(HBW.out _ (Below.refl _ _)).1⟩
   ·subst hv2
    go_wp2_with fail
    (with_reducible refine HOPK.out.mono ?_)
    rintro e w5 ⟨rfl,hb5⟩
    have HB5:=Lib.hid hb5
    clear hb5
    cases hop:y.op with
    | true =>
     have HTL:Hid (toldL evs hs l = (l.take k).map (itemV evs hs)):=Lib.hid (by
      unfold toldL
      rw [takeWhile_stop (okV hs) l k hil (fun i hi=>HOK.out i hi _) (by rw [HVK.out,HOV.out,hop];rfl)])
     have HLK:Hid (((l.take k).map (itemV evs hs)).length = k):=Lib.hid (by rw [List.length_map,List.length_take];omega)
     obtain ⟨A',cc',hu10,hcc',hit⟩:=ItAt.of2 HLK.out (HOWN0.out w5 HB5.out)
     subst hu10
     have HIT:=Lib.hid hit
     clear hit hcc' hop HOWN0
     go_wp2_with fail
     go_ret
     rw [HTL.out,HLK.out]
     exact ⟨A',cc',rfl,HIT.out,(HBW.out _ HB5.out).1⟩
    | false =>
     have HOK2:Hid (∀ i,(hi:i < k + 1) → (hl:i < l.length) → okV hs l[i] = true):=Lib.hid fun i hi hl=>by
      by_cases e:i = k
      ·subst e;rw [HVK.out,HOV.out,hop];rfl
      ·exact HOK.out i (by omega) hl
     have HIT:Hid ((l.take (k + 1)).map (itemV evs hs) = (l.take k).map (itemV evs hs) ++ [((ix:Int),((evs.take y.en).drop y.bg).flatMap evOut)]):=Lib.hid (by
      rw [List.take_succ_eq_append_getElem hil,List.map_append,List.map_cons,List.map_nil,HVK.out,HIV.out])
     obtain ⟨q1,q2,q3,q4⟩:=HCD.out w5 (HBW.out w5 HB5.out).2.1
     have HF5:=Lib.hid (HFM.out w5 an cn ix y q4 q3 HYY.out hop)
     obtain ⟨T,hT⟩:∃ T,((evs.take y.en).drop y.bg).flatMap evOut = T:=⟨_,rfl⟩
     rw [hT] at HF5 HIT
     obtain ⟨l2,hl2⟩:∃ l2,(l.take (k + 1)).map (itemV evs hs) = l2:=⟨_,rfl⟩
     rw [hl2] at HIT
     have HL2:=Lib.hid hl2
     generalize (l.take k).map (itemV evs hs) = l1 at *
     clear hT hl2 hop q3 q4
     have hsz3:=(HBW.out w5 HB5.out).2.2.size
     go_wp2_with fail
     (with_reducible refine HF5.out.mono ?_)
     rintro e w6 ⟨rfl,hb6⟩
     have HB6:=Lib.hid (HB5.out.trans (hb6.mono HB5.out.size))
     have HO6:=Lib.hid (HOWN0.out w6 HB6.out)
     have hbs:=(HBW.out w6 HB6.out).2.2.size
     clear hb6 q1 q2
     go_wp2_with (at_builtin;go_must ((refine wpList_app w6 (by rfl) _ _ 56 (by rfl) w3.heap.size 60 i0 (.agg #[.int .i64 0,.string ⟨#[]⟩]) 2 24 Tryz.underlying56 hi hz0 hz1 hz2 (by rfl) (by decide) u7 k _ (by rfl) HO6.out _ rfl 1 [.int .i64 (ix:Int),.string (strL T)] (by rfl) (by rfl) (by intro u hu;simp only [List.mem_cons,List.not_mem_nil,or_false] at hu;rcases hu with rfl | rfl <;> rfl) (by omega) (by decide) hbs (fun vO' w7 hown7 hap7=>?_))))
     have HN7:Hid (Below w3.heap.size w3 w7 ∧ w7.ownsRow w3.heap.size 60 2 vO' (k + 1) (itC l2)):=Lib.hid ⟨((HBW.out w6 HB6.out).2.2.alloc hbs _).trans (hap7.below (by simp;omega) (fun q hq=>(HO6.out.lt q hq).1)),by
      rw [HIT.out,itC_snoc];exact hown7⟩
     clear hown7 hap7
     go_wp2_with fail
     go_roundw
     case rel=>exact ⟨k + 1,by go_num,by omega,HOK2,Lib.hid (by rw [HL2.out];exact HN7.out)⟩
     case measure=>simp [intOf];omega
  ·have hk2:(lm:Int) ≤ (k:Int):=by omega
   have hkl:k = lm:=by omega
   have HTL:Hid (toldL evs hs l = (l.take k).map (itemV evs hs)):=Lib.hid (by
    have hall:∀ x ∈ l,okV hs x = true:=fun x hx=>by
     obtain ⟨i,hi,rfl⟩:=List.getElem_of_mem hx
     exact HOK.out i (by have:=HLM.out;omega) hi
    unfold toldL
    rw [takeWhile_all _ _ hall,List.take_of_length_le (by have:=HLM.out;omega)])
   have HLK:Hid (((l.take k).map (itemV evs hs)).length = k):=Lib.hid (by rw [List.length_map,List.length_take];have:=HLM.out;omega)
   obtain ⟨A',cc',hu10,hcc',hit⟩:=ItAt.of2 HLK.out HM.out.2
   subst hu10
   have HIT:=Lib.hid hit
   have HBW:Hid (Below w.heap.size w wr):=Lib.hid (HB0.out.trans ((HBD.out.trans (HWR.out.mono HBD.out.size)).mono HB0.out.size))
   clear hit hcc' HM hkl
   go_wp2_with fail
   go_ret
   rw [HTL.out,HLK.out]
   exact ⟨A',cc',rfl,HIT.out,HBW.out⟩
end Go.Proofs.YtgjokdngbocehaaGreatDoor
namespace Go.Proofs.YtgjokdngbocehaaGreatDoor
open Go.RowKit
theorem toldL_le (evs:List Ev) (hs:List HN) (l:List (Int × Int)):(toldL evs hs l).length ≤ l.length:=by
 unfold toldL
 rw [List.length_map]
 exact (List.takeWhile_sublist _).length_le
theorem toldN_some {f:Nat} {evs:List Ev} {ss:List PS} {st:BegS} (hst:begAll beg0 evs = some st) (hc:checkN f ss = 0):toldN f evs ss = (toldL evs (readN evs st) (vdT (pathT (exprT (readN evs st) f) (readN evs st) ss ss.length) (readN evs st).length),0):=by
 have e:verdN f evs ss = (vdT (pathT (exprT (readN evs st) f) (readN evs st) ss ss.length) (readN evs st).length,0):=by
  unfold verdN;rw [hst];simp only;rw [if_neg (by rw [hc];decide)]
 unfold toldN
 rw [e,hst]
 simp only
 rw [if_neg (by decide)]
theorem toldN_bad {f:Nat} {evs:List Ev} {ss:List PS} (h:begAll beg0 evs = none ∨ checkN f ss = 6):toldN f evs ss = ([],6):=by
 have e:verdN f evs ss = ([],6):=by
  unfold verdN
  cases hst:begAll beg0 evs with
  | none=>rfl
  | some st =>
   rcases h with h | h
   ·rw [hst] at h;cases h
   ·simp only;rw [if_pos (by rw [h];decide)]
 unfold toldN
 rw [e]
 simp only
 rw [if_pos (by decide)]
set_option maxRecDepth 1000000 in
set_option maxHeartbeats 16000000 in
theorem halfTold_of {f:Nat} (hf:f ≤ 1048576) (a:Option Addr) (n c:Nat) (evs:List Ev) (pa:Option Addr) (pc:Nat) (ss:List PS) (w:World) (hE:EnvT w) (hev:EvsAt w a n evs) (hw:wtEs evs ≤ 1048576) (hx:SsAt f w pa ss) (hpl:ss.length ≤ 1048576) (hnc:n ≤ c) :
  Calls Tryz.prog 5 #[.slice a n c,.agg #[.slice pa ss.length pc]] w fun e w'=>e = .returned (.bool true) ∧ Below w.heap.size w w':=by
 have hn:n ≤ 1048576:=by have:=wtEs_length evs;have:=hev.1;omega
 obtain ⟨W0,hW0⟩:∃ W0,W0 = w.alloc (.cells #[.slice pa ss.length pc] 25):=⟨_,rfl⟩
 have hb0:Below w.heap.size w W0:=by rw [hW0];exact (Below.refl w.heap.size w).alloc (Nat.le_refl _) _
 have hsz0:W0.heap.size = w.heap.size + 1:=by rw [hW0];simp
 have hk4:W0.heap[w.heap.size]? = some (.cells #[.slice pa ss.length pc] 25 (0,0)):=by rw [hW0];exact heap_alloc_new w _
 have HKS:Hid (∀ W,Below W0.heap.size W0 W → W.cell? ⟨w.heap.size,0,none⟩ = some (.slice pa ss.length pc)):=Lib.hid fun W hW=>by rw [cell_heap ((hW.block w.heap.size (by omega)).trans hk4)];rfl
 have FIN:Hid (∀ W,Below W0.heap.size W0 W → Below w.heap.size w W):=Lib.hid fun W hW=>hb0.trans (hW.mono hb0.size)
 have HAW:=Lib.hid (awake15_any W0 (hE.below hb0))
 have HBQ:Hid (∀ W,Below W0.heap.size W0 W → BegQ W a n evs):=Lib.hid fun W hW=>⟨hev.below (FIN.out W hW),hn,evsSmH hw,hw,(hE.below (FIN.out W hW)).rng,(hE.below (FIN.out W hW)).tab⟩
 have HBG:Hid (∀ W,Below W0.heap.size W0 W → Calls Tryz.prog 11 #[.slice a n c] W fun e w'=>e = .returned (.bool (begAll beg0 evs).isSome) ∧ Below W.heap.size W w'):=Lib.hid fun W hW=>begin15_any a n c evs W (hev.below (FIN.out W hW)) hn (evsSmH hw)
 have HLT:Hid (∀ W,Below W0.heap.size W0 W → Calls Tryz.prog 9 #[.agg #[.slice pa ss.length pc]] W fun e w'=>SomeB e ∧ Below W.heap.size W w'):=Lib.hid fun W hW=>light_any pa pc ss W (SsAt.below hx (FIN.out W hW)) hpl
 have HCK:Hid (∀ W,Below W0.heap.size W0 W → Calls Tryz.prog 12 #[.agg #[.slice pa ss.length pc]] W fun e w'=>e = .returned (.int .i64 (checkN f ss)) ∧ Below W.heap.size W w'):=Lib.hid fun W hW=>check_any hf pa pc ss W (hE.below (FIN.out W hW)) (SsAt.below hx (FIN.out W hW)) hpl
 have HVF:Hid (∀ W,Below W0.heap.size W0 W → Calls Tryz.prog 18 #[.slice a n c,.agg #[.slice pa ss.length pc]] W fun e w'=>∃ A cc,e = .returned (.tuple #[.slice A (toldN f evs ss).1.length cc,.int .i64 (toldN f evs ss).2]) ∧ (toldN f evs ss).1.length ≤ cc ∧ ItAt w' A (toldN f evs ss).1.length (toldN f evs ss).1 ∧ Below W.heap.size W w'):=Lib.hid fun W hW=>toldH_any hf a n c evs pa pc ss W (HBQ.out W hW) (SsAt.below hx (FIN.out W hW)) hpl hnc
 have HVR:Hid (∀ W,(n:Int) ≤ 120 → (toldN f evs ss).2 = 0 → Below W0.heap.size W0 W → Calls Tryz.prog 19 #[.slice a n c,.agg #[.slice pa ss.length pc]] W fun e w'=>∃ A cc,e = .returned (.slice A (toldN f evs ss).1.length cc) ∧ ItAt w' A (toldN f evs ss).1.length (toldN f evs ss).1 ∧ Below W.heap.size W w'):=Lib.hid fun W h4 h0 hW=>by
  cases hst:begAll beg0 evs with
  | none=>rw [toldN_bad (.inl hst)] at h0;exact absurd h0 (by decide)
  | some st =>
   rcases checkN_two f ss with hc | hc
   ·rw [toldN_some hst hc]
    exact told15_any a n c evs st pa pc ss W (HBQ.out W hW) hst (by omega) (SsAt.below hx (FIN.out W hW)) hpl (checkN_goodP hc)
   ·rw [toldN_bad (.inr hc)] at h0;exact absurd h0 (by decide)
 have HV2:Hid ((toldN f evs ss).2 = (if (begAll beg0 evs).isSome = true ∧ checkN f ss = 0 then 0 else 6) ∧ ((toldN f evs ss).2 ≠ 0 → (toldN f evs ss).1.length = 0) ∧ (toldN f evs ss).1.length ≤ n + 1):=Lib.hid (by
  have hle:∀ st,begAll beg0 evs = some st → (readN evs st).length ≤ n + 1:=fun st hst=>by
   have h1:=(beg_hok hst).len
   have h2:(readN evs st).length = (hAll evs.length evs evs.length).1.length:=List.length_modify _ _ _
   have h3:=hev.1
   omega
  cases hst:begAll beg0 evs with
  | none=>rw [toldN_bad (.inl hst)];simp
  | some st =>
   rcases checkN_two f ss with hc | hc
   ·rw [toldN_some hst hc,hc]
    refine ⟨by simp,fun h=>absurd rfl h,?_⟩
    have:=vdT_le (pathT (exprT (readN evs st) f) (readN evs st) ss ss.length) (readN evs st).length
    have:=toldL_le evs (readN evs st) (vdT (pathT (exprT (readN evs st) f) (readN evs st) ss ss.length) (readN evs st).length)
    have:=hle st hst
    simp only
    omega
   ·rw [toldN_bad (.inr hc),hc];simp)
 have HW0E:=Lib.hid hW0
 obtain ⟨V,hV⟩:∃ V,toldN f evs ss = V:=⟨_,rfl⟩
 rw [hV] at HVF HVR HV2
 clear hW0 hb0 hsz0 hk4 hE hev hw hx hV hpl
 obtain ⟨cv,hcv⟩:∃ cv,checkN f ss = cv:=⟨_,rfl⟩
 rw [hcv] at HCK HV2
 clear hcv
 generalize (begAll beg0 evs).isSome = gb at *
 generalize ss.length = m at *
 obtain ⟨l,ev⟩:=V
 simp only at HVF HVR HV2
 have p0:=HKS.out W0 (Below.refl _ _)
 go_enter Tryz.func5,Tryz.ntmps5
 go_wp2_with fail
 rw [← HW0E.out]
 (with_reducible refine HAW.out.mono ?_)
 rintro e w1 ⟨rfl,hb1⟩
 have HB1:=Lib.hid hb1
 clear hb1 p0
 have p0:=HKS.out w1 HB1.out
 by_cases hn120:(120:Int) < (n:Int)
 ·go_wp2_with fail
  go_ret
  exact ⟨rfl,FIN.out _ HB1.out⟩
 have hn120':(n:Int) ≤ 120:=by omega
 have HL1:=Lib.hid (HLT.out w1 HB1.out)
 go_wp2_with fail
 (with_reducible refine HL1.out.mono ?_)
 rintro e w2 ⟨⟨b2,rfl⟩,hb⟩
 have HB2:=Lib.hid (HB1.out.trans (hb.mono HB1.out.size))
 clear hb p0
 have p0:=HKS.out w2 HB2.out
 cases b2 with
 | false =>
  go_wp2_with fail
  go_ret
  exact ⟨rfl,FIN.out _ HB2.out⟩
 | true =>
 have HV3:=Lib.hid (HVF.out w2 HB2.out)
 go_wp2_with fail
 (with_reducible refine HV3.out.mono ?_)
 rintro e w3 ⟨A,cc,rfl,hcc,hvd,hb⟩
 have HB3:=Lib.hid (HB2.out.trans (hb.mono HB2.out.size))
 have HVD:=Lib.hid hvd
 have HBG3:=Lib.hid (HBG.out w3 HB3.out)
 clear hb hvd p0 hcc
 have p0:=HKS.out w3 HB3.out
 obtain ⟨hv1,hv2,hv3⟩:=HV2.out
 have HL0:=Lib.hid hv2
 have HL3:=Lib.hid hv3
 have HV1:=Lib.hid hv1
 clear hv1 hv2 hv3 HV2
 go_wp2_with fail
 (with_reducible refine HBG3.out.mono ?_)
 rintro e w4 ⟨rfl,hb⟩
 have HB4:=Lib.hid (HB3.out.trans (hb.mono HB3.out.size))
 clear p0
 have p0:=HKS.out w4 HB4.out
 have HVD4:=Lib.hid (HVD.out.below hb)
 clear hb
 cases gb with
 | false =>
  have he:ev = 6:=by rw [HV1.out];rfl
  have hl:=HL0.out (by rw [he];decide)
  rw [hl]
  subst he
  clear hl
  go_wp2_with fail
  go_ret
  exact ⟨rfl,FIN.out _ HB4.out⟩
 | true =>
 have HC4:=Lib.hid (HCK.out w4 HB4.out)
 go_wp2_with fail
 (with_reducible refine HC4.out.mono ?_)
 rintro e w5 ⟨rfl,hb⟩
 have HB5:=Lib.hid (HB4.out.trans (hb.mono HB4.out.size))
 clear p0
 have p0:=HKS.out w5 HB5.out
 have HVD5:=Lib.hid (HVD4.out.below hb)
 clear hb
 by_cases hc0:cv = 0
 ·have he:ev = 0:=by rw [HV1.out];simp [hc0]
  have HR5:=Lib.hid (HVR.out w5 hn120' he HB5.out)
  subst he hc0
  go_wp2_with fail
  (with_reducible refine HR5.out.mono ?_)
  rintro e w6 ⟨B,cb,rfl,hvb,hb⟩
  have HB6:=Lib.hid (HB5.out.trans (hb.mono HB5.out.size))
  have HVB:=Lib.hid hvb
  have HVA:=Lib.hid (HVD5.out.below hb)
  clear hb hvb
  obtain ⟨lm,hlm⟩:∃ lm,l.length = lm:=⟨_,rfl⟩
  have HLM:=Lib.hid hlm
  rw [hlm] at HVA HVB
  rw [hlm]
  have hlb:lm ≤ 1048576:=by have:=HL3.out;omega
  clear hlm
  go_wp2_with fail
  go_loopw [8] (fun iv wr=>∃ k:Nat,iv = .int .i64 k ∧ k ≤ lm ∧ Below w6.heap.size w6 wr) (fun iv _=>lm - (intOf iv).toNat)
  case atStart=>exact ⟨0,rfl,Nat.zero_le _,Below.refl _ _⟩
  case round =>
   obtain ⟨k,rfl,hk,HM⟩:=hrel
   by_cases hkn:k < lm
   ·have hil:k < l.length:=by rw [HLM.out];exact hkn
    obtain ⟨ba,oa,rfl,_,x0,x1⟩:=(HVA.out.below HM).2 k hil
    obtain ⟨bb,ob,rfl,_,y0,y1⟩:=(HVB.out.below HM).2 k hil
    have i1:(0:Int) ≤ (k:Int):=by omega
    have i2:(k:Int) < (lm:Int):=by omega
    have ewk:IntKind.i64.wrap ((k:Int) + 1) = (k:Int) + 1:=IntWalk.i64_in _ (by omega)
    generalize l[k] = v at *
    obtain ⟨v1,v2⟩:=v
    simp only at x0 x1 y0 y1
    generalize strL v2 = sv at *
    have t1:((v1:Int) != v1) = false:=by simp
    have t2:(sv.toList == sv.toList) = true:=by simp
    have t3:(sv.toList != sv.toList) = false:=by simp
    have HB0:=Lib.hid HM
    clear HM
    go_wp2_with fail
    go_quiet (fail)
    go_wp2_with fail
    go_roundw
    case rel=>exact ⟨k + 1,by go_num,by omega,Below.drewN HB0.out _⟩
    case measure=>simp [intOf];omega
   ·have hk2:(lm:Int) ≤ (k:Int):=by omega
    have HB7:=Lib.hid (HB6.out.trans (HM.mono HB6.out.size))
    go_wp2_with fail
    go_ret
    exact ⟨rfl,FIN.out _ HB7.out⟩
 ·have he:ev = 6:=by rw [HV1.out];simp [hc0]
  have hl:=HL0.out (by rw [he];decide)
  have hne:((cv:Int) != 0) = true:=by simp [hc0]
  rw [hl]
  subst he
  clear hl
  go_wp2_with fail
  go_ret
  exact ⟨rfl,FIN.out _ HB5.out⟩
end Go.Proofs.YtgjokdngbocehaaGreatDoor
